/- The program computes the plain functions: wire_Reader_Uint, wire_Reader_Fail, wire_Reader_Length, wire_Reader_Bytes, format_decoder_hash, wire_Reader_Fault, format_decoder_ok, wire_Reader_At, format_decoder_copying, format_decoder_literal, format_decoder_command, wire_Reader_Rest. Printed by a program. -/
import Derived.Test.YtkalbidbhaalmaaProg
import Derived.Test.YtkalbidbhaalmaaGs
import Derived.Test.YtkalbidbhaalmaaRep
import Derived.Test.YtkalbidbhaalmaaL0
namespace Go.Proofs.Ytkalbidbhaalmaa
open Go.RowKit G
theorem ent39_1 : Enters Try.prog 39 := enters_of Try.func39 (by decide +kernel) (by decide +kernel)
theorem ent40_1 : Enters Try.prog 40 := enters_of Try.func40 (by decide +kernel) (by decide +kernel)
theorem ent41_1 : Enters Try.prog 41 := enters_of Try.func41 (by decide +kernel) (by decide +kernel)
theorem ent46_1 : Enters Try.prog 46 := enters_of Try.func46 (by decide +kernel) (by decide +kernel)
theorem ent47_1 : Enters Try.prog 47 := enters_of Try.func47 (by decide +kernel) (by decide +kernel)
theorem ent75_1 : Enters Try.prog 75 := enters_of Try.func75 (by decide +kernel) (by decide +kernel)
theorem ent77_1 : Enters Try.prog 77 := enters_of Try.func77 (by decide +kernel) (by decide +kernel)
theorem ent78_1 : Enters Try.prog 78 := enters_of Try.func78 (by decide +kernel) (by decide +kernel)
theorem ent79_1 : Enters Try.prog 79 := enters_of Try.func79 (by decide +kernel) (by decide +kernel)
theorem ent80_1 : Enters Try.prog 80 := enters_of Try.func80 (by decide +kernel) (by decide +kernel)
theorem ent81_1 : Enters Try.prog 81 := enters_of Try.func81 (by decide +kernel) (by decide +kernel)
theorem ent82_1 : Enters Try.prog 82 := enters_of Try.func82 (by decide +kernel) (by decide +kernel)
theorem ent100_1 : Enters Try.prog 100 := enters_of Try.func100 (by decide +kernel) (by decide +kernel)
theorem elT22_1 : ElemT Try.prog 22 5 (.int .u8 0) 1 1 := ⟨by kernel_rfl, by kernel_rfl, by kernel_rfl, by decide⟩
theorem eqT30_1 (x0 x1 y0 y1 : Int) (w : World) : (binOp .eql 30 (.agg #[.int .i64 x0, .int .i64 x1]) (.agg #[.int .i64 y0, .int .i64 y1])).run Try.prog w = .ok (.bool (decide (x0 = y0 ∧ x1 = y1))) w := by
  simp [go_sem]; repeat' split
  all_goals simp_all
theorem eqT30n_1 (x0 x1 y0 y1 : Int) (w : World) : (binOp .neq 30 (.agg #[.int .i64 x0, .int .i64 x1]) (.agg #[.int .i64 y0, .int .i64 y1])).run Try.prog w = .ok (.bool (!decide (x0 = y0 ∧ x1 = y1))) w := by
  simp [go_sem]; repeat' split
  all_goals simp_all
set_option maxRecDepth 100000 in
set_option maxHeartbeats 1000000 in
theorem G.wire_Reader_Uint_spec {m : Mem} {a0 : G.wire_Reader} {a0_b : Nat} {a0_position_b_a : Option Addr} {a0_position_b_c : Nat} {a0_T : TypeId} {a1 : Int} (a0_position_b_f : Els isU8 m 1 a0_position_b_a a0_position_b_c a0.position.b) {r : Int × G.wire_Reader} (h : G.wire_Reader_Uint a0 a1 = some r) (hO : Ow m [.box a0_b #[.slice a0_position_b_a a0.position.b.length a0_position_b_c, .int .i64 a0.position.at_, .int .i64 a0.position.fault.code, .int .i64 a0.position.fault.at_] a0_T]) :
  Spec Try.prog 39 #[.pointer (some ⟨a0_b, 0, none⟩), .int .i64 a1] m [.box a0_b #[.slice a0_position_b_a a0.position.b.length a0_position_b_c, .int .i64 a0.position.at_, .int .i64 a0.position.fault.code, .int .i64 a0.position.fault.at_] a0_T] fun v m' L => L = [.box a0_b #[.slice a0_position_b_a r.2.position.b.length a0_position_b_c, .int .i64 r.2.position.at_, .int .i64 r.2.position.fault.code, .int .i64 r.2.position.fault.at_] a0_T] ∧ v = .int .u64 r.1 ∧ r.2.position.b = a0.position.b := by
 unfold G.wire_Reader_Uint at h
 refine enter (args := [_, _]) 41 Try.func39 rfl rfl (by simp) fun fr hK => ?_
 have hS := St.refl (hO)
 replace hK : Kn 41 fr [(0, .pointer (some ⟨a0_b, 0, none⟩)), (1, .int .i64 a1)] := hK
 refine w_seq (w_region ?_)
 refine qp 4 (.int .u64 0) hK fun fr hK => ?_
 refine wpList_nil (then_n ?_)
 refine w_seq ?_
 refine w_seq (w_region ?_)
 refine qp 11 (.pointer (some ⟨a0_b, 0, none⟩)) hK fun fr hK => ?_
 refine qp 12 (.bool false) hK fun fr hK => ?_
 refine wpList_nil (then_n ?_)
 refine w_cond_f hK rfl ?_
 refine wp_skip ?_
 refine then_n ?_
 refine w_seq ?_
 refine w_seq ?_
 obtain ⟨v1, hv1, h⟩ := bind_some h
 refine w_join (fun fr ww => ∃ m1 : Mem, m1.w = ww ∧ Kn 41 fr [(0, .pointer (some ⟨a0_b, 0, none⟩)), (1, .int .i64 a1), (18, .bool v1)] ∧ Le m m1 ∧ St (blocksOf [.box a0_b #[.slice a0_position_b_a a0.position.b.length a0_position_b_c, .int .i64 a0.position.at_, .int .i64 a0.position.fault.code, .int .i64 a0.position.fault.at_] a0_T]) m m1 [.box a0_b #[.slice a0_position_b_a a0.position.b.length a0_position_b_c, .int .i64 a0.position.at_, .int .i64 a0.position.fault.code, .int .i64 a0.position.fault.at_] a0_T]) ?_ ?_
 ·
  clear hK hS fr hv1
  rintro fr _ ⟨m1, rfl, hK, l1, hS⟩
  refine then_n ?_
  obtain ⟨v2, hv2, h⟩ := bind_some h
  refine w_join (fun fr ww => ∃ m2 : Mem, m2.w = ww ∧ Kn 41 fr [(0, .pointer (some ⟨a0_b, 0, none⟩)), (1, .int .i64 v2)] ∧ Le m1 m2 ∧ St (blocksOf [.box a0_b #[.slice a0_position_b_a a0.position.b.length a0_position_b_c, .int .i64 a0.position.at_, .int .i64 a0.position.fault.code, .int .i64 a0.position.fault.at_] a0_T]) m m2 [.box a0_b #[.slice a0_position_b_a a0.position.b.length a0_position_b_c, .int .i64 a0.position.at_, .int .i64 a0.position.fault.code, .int .i64 a0.position.fault.at_] a0_T]) ?_ ?_
  ·
   clear hK hS fr hv2
   rintro fr _ ⟨m2, rfl, hK, l2, hS⟩
   refine then_n ?_
   refine w_seq (w_region ?_)
   refine qp 20 (.pointer (some ⟨a0_b, 0, none⟩)) hK fun fr hK => ?_
   refine qp 21 (.pointer (some ⟨a0_b, 0, none⟩)) hK fun fr hK => ?_
   refine qp 22 (.pointer (some ⟨a0_b, 0, none⟩)) hK fun fr hK => ?_
   refine qp 23 (.int .i64 v2) hK fun fr hK => ?_
   replace a0_position_b_f := Els.mono rep_U8 a0_position_b_f (l1.trans l2)
   obtain ⟨y1, hy1, h⟩ := bind_some h
   replace hS : St _ m m2 [.box a0_b #[.slice a0_position_b_a a0.position.b.length a0_position_b_c, .int .i64 a0.position.at_, .int .i64 a0.position.fault.code, .int .i64 a0.position.fault.at_] a0_T] := hS
   refine qo 24 hK (s_callM (R := [.box a0_b #[.slice a0_position_b_a a0.position.b.length a0_position_b_c, .int .i64 a0.position.at_, .int .i64 a0.position.fault.code, .int .i64 a0.position.fault.at_] a0_T]) (L := []) hK.at_ hS ent78_1 rfl rfl rfl rfl (G.wire_position_take_spec a0_position_b_f hy1 (Ow.left (L := [.box a0_b #[.slice a0_position_b_a a0.position.b.length a0_position_b_c, .int .i64 a0.position.at_, .int .i64 a0.position.fault.code, .int .i64 a0.position.fault.at_] a0_T]) hS.ow)) (by kernel_rfl) ?_)
   clear hK fr hS; rintro _ m3 _ l3 hS ⟨c1r0_a, c1r0_c, rfl, rfl, c1r0_f, c1re0⟩ fr hK
   replace hS : St _ m m3 [.box a0_b #[.slice a0_position_b_a y1.2.2.b.length a0_position_b_c, .int .i64 y1.2.2.at_, .int .i64 y1.2.2.fault.code, .int .i64 y1.2.2.fault.at_] a0_T] := hS
   refine qp 19 (.tuple #[.slice c1r0_a y1.1.length c1r0_c, .bool y1.2.1]) hK fun fr hK => ?_
   refine qp 25 (.slice c1r0_a y1.1.length c1r0_c) hK fun fr hK => ?_
   refine qp 26 (.bool y1.2.1) hK fun fr hK => ?_
   refine qp 5 (.slice c1r0_a y1.1.length c1r0_c) hK fun fr hK => ?_
   refine qp 6 (.bool y1.2.1) hK fun fr hK => ?_
   refine wpList_nil (then_n ?_)
   refine w_seq ?_
   refine w_seq (w_region ?_)
   refine qp 27 (.bool y1.2.1) hK fun fr hK => ?_
   refine qp 28 (.bool (!y1.2.1)) hK fun fr hK => ?_
   refine wpList_nil (then_n ?_)
   refine w_cond hK rfl (fun hb1 => ?_) (fun hb1 => ?_)
   ·
    replace hK := hK.more (t := 28) (v' := .bool true) rfl (by rw [hb1])
    replace h := ite_t ((Bool.not_eq_true' _).mp hb1) h
    refine w_seq (w_region ?_)
    refine qp 4 (.int .u64 0) hK fun fr hK => ?_
    refine wpList_nil (then_n ?_)
    refine wp_ret ?_
    refine then_r ?_
    replace a0_position_b_f := Els.mono rep_U8 a0_position_b_f l3
    have f1 : Els isU8 m3 1 a0_position_b_a a0_position_b_c y1.2.2.b := Els.cast c1re0.symm a0_position_b_f
    replace h := Option.some.inj h; subst h
    replace hS : St _ m m3 [.box a0_b #[.slice a0_position_b_a y1.2.2.b.length a0_position_b_c, .int .i64 y1.2.2.at_, .int .i64 y1.2.2.fault.code, .int .i64 y1.2.2.fault.at_] a0_T] := hS
    refine ret_of [.tmp 4] [.int .u64 0] rfl hK (.tmp rfl .nil) hS ?_
    exact ⟨rfl, rfl, c1re0⟩
   ·
    replace hK := hK.more (t := 28) (v' := .bool false) rfl (by rw [hb1])
    replace h := ite_f (not_false_of ((Bool.not_eq_false' _).mp hb1)) h
    refine wp_skip ?_
    refine then_n ?_
    refine w_seq (w_region ?_)
    refine qp 7 (.int .u64 0) hK fun fr hK => ?_
    refine wpList_nil (then_n ?_)
    refine w_seq (w_region ?_)
    obtain ⟨y2, hy2, h⟩ := bind_some h
    refine qo 29 hK (s_call hK.at_ hS ent79_1 rfl rfl rfl rfl (G.wire_number_spec hy2) (by kernel_rfl) ?_)
    clear hK fr hS; rintro _ m4 _ l4 hS ⟨c2r0_0_b, rfl, rfl⟩ fr hK
    replace hS : St _ m m4 [.box c2r0_0_b #[.int .u64 y2] 63, .box a0_b #[.slice a0_position_b_a y1.2.2.b.length a0_position_b_c, .int .i64 y1.2.2.at_, .int .i64 y1.2.2.fault.code, .int .i64 y1.2.2.fault.at_] a0_T] := hS
    refine qp 8 (.func (.func 100) #[] #[.pointer (some ⟨c2r0_0_b, 0, none⟩)]) hK fun fr hK => ?_
    refine wpList_nil (then_n ?_)
    refine w_seq ?_
    refine w_seq (w_region ?_)
    refine qp 30 (.slice c1r0_a y1.1.length c1r0_c) hK fun fr hK => ?_
    refine qp 31 (.int .i64 (y1.1.length : Int)) hK fun fr hK => ?_
    refine qp 32 (.int .i64 0) hK fun fr hK => ?_
    refine wpList_nil (then_n ?_)
    refine wp_block ?_
    replace hS := hS.front 1 rfl
    replace hS := hS.front 1 rfl
    replace hS : St _ m m4 [.box c2r0_0_b #[.int .u64 y2] 63, .box a0_b #[.slice a0_position_b_a y1.2.2.b.length a0_position_b_c, .int .i64 y1.2.2.at_, .int .i64 y1.2.2.fault.code, .int .i64 y1.2.2.fault.at_] a0_T] := hS
    refine w_loopL h (fun (s1 : Int × Int × Int) fr ww => ∃ m5 : Mem, m5.w = ww ∧ Kn 41 fr [(7, .int .u64 s1.2.1), (8, .func (.func 100) #[] #[.pointer (some ⟨c2r0_0_b, 0, none⟩)]), (30, .slice c1r0_a y1.1.length c1r0_c), (31, .int .i64 (y1.1.length : Int)), (32, .int .i64 s1.2.2)] ∧ Le m4 m5 ∧ St (blocksOf [.box a0_b #[.slice a0_position_b_a a0.position.b.length a0_position_b_c, .int .i64 a0.position.at_, .int .i64 a0.position.fault.code, .int .i64 a0.position.fault.at_] a0_T]) m m5 [.box c2r0_0_b #[.int .u64 s1.1] 63, .box a0_b #[.slice a0_position_b_a y1.2.2.b.length a0_position_b_c, .int .i64 y1.2.2.at_, .int .i64 y1.2.2.fault.code, .int .i64 y1.2.2.fault.at_] a0_T]) ?_ ?_
    · exact ⟨m4, rfl, hK.only [7, 8, 30, 31, 32], Le.refl _, hS⟩
    clear hK hS fr h
    rintro k1 s1 x1 fr _ ⟨m5, rfl, hK, l5, hS⟩ h hn1
    unfold G.wire_Reader_Uint_l1 at h
    refine w_seq (w_region ?_)
    refine qp 33 (.bool (decide (s1.2.2 < (y1.1.length : Int)))) hK fun fr hK => ?_
    refine wpList_nil (then_n ?_)
    refine w_seq ?_
    refine w_cond hK rfl (fun hb2 => ?_) (fun hb2 => ?_)
    ·
     replace hK := hK.more (t := 33) (v' := .bool true) rfl (by rw [hb2])
     replace h := ite_t (of_decide_eq_true hb2) h
     refine wp_skip ?_
     refine then_n ?_
     refine w_seq ?_
     refine wp_block ?_
     refine w_seq (w_region ?_)
     replace c1r0_f := Els.mono rep_U8 c1r0_f (l4.trans l5)
     obtain ⟨x2, hy3, h⟩ := bind_some h
     refine qo 34 hK (s_idx elT22_1 c1r0_f hy3 hK.at_ rfl rfl rfl ?_)
     clear hK fr; intro b1 p1 cs1 hR1 hA1 fr hK
     obtain rfl := hR1
     refine qo 35 hK (s_loadAt hK.at_ hA1 0 rfl rfl rfl rfl (by kernel_rfl) ?_)
     clear hK fr; intro fr hK
     refine qp 10 (.int .u8 (x2.toNat : Int)) hK fun fr hK => ?_
     refine wpList_nil (then_n ?_)
     refine w_region ?_
     refine qp 36 (.func (.func 100) #[] #[.pointer (some ⟨c2r0_0_b, 0, none⟩)]) hK fun fr hK => ?_
     refine qp 37 (.int .u8 (x2.toNat : Int)) hK fun fr hK => ?_
     obtain ⟨y3, hy4, h⟩ := bind_some h
     replace hS : St _ m m5 [.box c2r0_0_b #[.int .u64 s1.1] 63, .box a0_b #[.slice a0_position_b_a y1.2.2.b.length a0_position_b_c, .int .i64 y1.2.2.at_, .int .i64 y1.2.2.fault.code, .int .i64 y1.2.2.fault.at_] a0_T] := hS
     refine qo 38 hK (s_callM (R := [.box c2r0_0_b #[.int .u64 s1.1] 63]) (L := [.box a0_b #[.slice a0_position_b_a y1.2.2.b.length a0_position_b_c, .int .i64 y1.2.2.at_, .int .i64 y1.2.2.fault.code, .int .i64 y1.2.2.fault.at_] a0_T]) hK.at_ hS ent100_1 rfl rfl rfl rfl (G.wire_number_1_spec hy4 (Ow.left (L := [.box c2r0_0_b #[.int .u64 s1.1] 63]) hS.ow)) (by kernel_rfl) ?_)
     clear hK fr hS; rintro _ m6 _ l6 hS ⟨rfl, rfl⟩ fr hK
     replace hS : St _ m m6 [.box c2r0_0_b #[.int .u64 y3.2] 63, .box a0_b #[.slice a0_position_b_a y1.2.2.b.length a0_position_b_c, .int .i64 y1.2.2.at_, .int .i64 y1.2.2.fault.code, .int .i64 y1.2.2.fault.at_] a0_T] := hS
     refine qp 7 (.int .u64 y3.1) hK fun fr hK => ?_
     refine wpList_nil ?_
     refine blk_n ?_
     refine then_n ?_
     refine w_region ?_
     refine qp 39 (.int .i64 (IntKind.i64.wrap (s1.2.2 + 1))) hK fun fr hK => ?_
     refine qp 32 (.int .i64 (IntKind.i64.wrap (s1.2.2 + 1))) hK fun fr hK => ?_
     refine wpList_nil (then_n ?_)
     replace hS := hS.front 1 rfl
     replace hS := hS.front 1 rfl
     replace hS : St _ m m6 [.box c2r0_0_b #[.int .u64 y3.2] 63, .box a0_b #[.slice a0_position_b_a y1.2.2.b.length a0_position_b_c, .int .i64 y1.2.2.at_, .int .i64 y1.2.2.fault.code, .int .i64 y1.2.2.fault.at_] a0_T] := hS
     replace h := Option.some.inj h; subst h
     obtain ⟨kq, hk1, hk2⟩ := hn1
     exact ⟨kq, hk1, _, hk2, m6, rfl, hK.only [7, 8, 30, 31, 32], l5.trans l6, hS⟩
    ·
     replace hK := hK.more (t := 33) (v' := .bool false) rfl (by rw [hb2])
     replace h := ite_f (of_decide_eq_false hb2) h
     refine wp_exit ?_
     refine then_x ?_
     refine then_x ?_
     refine blk_e ?_
     refine then_n ?_
     refine w_seq (w_region ?_)
     refine qp 40 (.int .u64 s1.2.1) hK fun fr hK => ?_
     refine qp 4 (.int .u64 s1.2.1) hK fun fr hK => ?_
     refine wpList_nil (then_n ?_)
     refine wp_ret ?_
     replace a0_position_b_f := Els.mono rep_U8 a0_position_b_f (l3.trans (l4.trans l5))
     have f1 : Els isU8 m5 1 a0_position_b_a a0_position_b_c y1.2.2.b := Els.cast c1re0.symm a0_position_b_f
     replace h := Option.some.inj h; subst h
     replace h := Option.some.inj (loop_out hn1); subst h
     replace hS := hS.front 1 rfl
     replace hS : St _ m m5 [.box a0_b #[.slice a0_position_b_a y1.2.2.b.length a0_position_b_c, .int .i64 y1.2.2.at_, .int .i64 y1.2.2.fault.code, .int .i64 y1.2.2.fault.at_] a0_T, .box c2r0_0_b #[.int .u64 s1.1] 63] := hS
     refine ret_of [.tmp 4] [.int .u64 s1.2.1] rfl hK (.tmp rfl .nil) (St.keep (L := [.box a0_b #[.slice a0_position_b_a y1.2.2.b.length a0_position_b_c, .int .i64 y1.2.2.at_, .int .i64 y1.2.2.fault.code, .int .i64 y1.2.2.fault.at_] a0_T]) (R := [.box c2r0_0_b #[.int .u64 s1.1] 63]) hS) ?_
     exact ⟨rfl, rfl, c1re0⟩
  ·
   replace h := hv2; clear hv2
   refine w_cond hK rfl (fun hb3 => ?_) (fun hb3 => ?_)
   ·
    replace hK := hK.more (t := 18) (v' := .bool true) rfl (by rw [hb3])
    replace h := ite_t (hb3) h
    refine w_region ?_
    refine qp 1 (.int .i64 (-1)) hK fun fr hK => ?_
    refine wpList_nil (then_n ?_)
    replace hS : St _ m m1 [.box a0_b #[.slice a0_position_b_a a0.position.b.length a0_position_b_c, .int .i64 a0.position.at_, .int .i64 a0.position.fault.code, .int .i64 a0.position.fault.at_] a0_T] := hS
    replace h := Option.some.inj h; subst h
    exact ⟨m1, rfl, hK.only [0, 1], Le.refl _, hS⟩
   ·
    replace hK := hK.more (t := 18) (v' := .bool false) rfl (by rw [hb3])
    replace h := ite_f (ne_true_of_eq_false hb3) h
    refine wp_skip ?_
    refine then_n ?_
    replace hS : St _ m m1 [.box a0_b #[.slice a0_position_b_a a0.position.b.length a0_position_b_c, .int .i64 a0.position.at_, .int .i64 a0.position.fault.code, .int .i64 a0.position.fault.at_] a0_T] := hS
    replace h := Option.some.inj h; subst h
    exact ⟨m1, rfl, hK.only [0, 1], Le.refl _, hS⟩
 ·
  replace h := hv1; clear hv1
  refine w_region ?_
  refine qp 13 (.int .i64 a1) hK fun fr hK => ?_
  refine qp 14 (.bool (decide (a1 < 1))) hK fun fr hK => ?_
  refine qp 15 (.bool (decide (a1 < 1))) hK fun fr hK => ?_
  refine split_b (x := decide (a1 < 1)) (fun hb4 => ?_) (fun hb4 => ?_)
  ·
   replace hK := hK.more (t := 15) (v' := .bool true) rfl (by rw [hb4])
   replace hK := hK.more (t := 14) (v' := .bool true) rfl (by rw [hb4])
   replace h := ite_t (of_decide_eq_true hb4) h
   refine qs 16 hK ?_
   clear hK fr; intro fr hK
   refine qs 17 hK ?_
   clear hK fr; intro fr hK
   refine qp 18 (.bool true) hK fun fr hK => ?_
   refine wpList_nil (then_n ?_)
   replace hS : St _ m m [.box a0_b #[.slice a0_position_b_a a0.position.b.length a0_position_b_c, .int .i64 a0.position.at_, .int .i64 a0.position.fault.code, .int .i64 a0.position.fault.at_] a0_T] := hS
   replace h := Option.some.inj h; subst h
   exact ⟨m, rfl, hK.only [0, 1, 18], Le.refl _, hS⟩
  ·
   replace hK := hK.more (t := 15) (v' := .bool false) rfl (by rw [hb4])
   replace hK := hK.more (t := 14) (v' := .bool false) rfl (by rw [hb4])
   replace h := ite_f (of_decide_eq_false hb4) h
   refine qp 16 (.int .i64 a1) hK fun fr hK => ?_
   refine qp 17 (.bool (decide (a1 > 8))) hK fun fr hK => ?_
   refine qp 18 (.bool (decide (a1 > 8))) hK fun fr hK => ?_
   refine wpList_nil (then_n ?_)
   replace hS : St _ m m [.box a0_b #[.slice a0_position_b_a a0.position.b.length a0_position_b_c, .int .i64 a0.position.at_, .int .i64 a0.position.fault.code, .int .i64 a0.position.fault.at_] a0_T] := hS
   replace h := Option.some.inj h; subst h
   exact ⟨m, rfl, hK.only [0, 1, 18], Le.refl _, hS⟩
set_option maxRecDepth 100000 in
set_option maxHeartbeats 1000000 in
theorem G.wire_Reader_Fail_spec {m : Mem} {a0 : G.wire_Reader} {a0_b : Nat} {a0_position_b_a : Option Addr} {a0_position_b_c : Nat} {a0_T : TypeId} {a1 : Int} {a2 : Int} (a0_position_b_f : Els isU8 m 1 a0_position_b_a a0_position_b_c a0.position.b) {r : G.wire_Reader} (h : G.wire_Reader_Fail a0 a1 a2 = some r) (hO : Ow m [.box a0_b #[.slice a0_position_b_a a0.position.b.length a0_position_b_c, .int .i64 a0.position.at_, .int .i64 a0.position.fault.code, .int .i64 a0.position.fault.at_] a0_T]) :
  Spec Try.prog 40 #[.pointer (some ⟨a0_b, 0, none⟩), .int .i64 a1, .int .i64 a2] m [.box a0_b #[.slice a0_position_b_a a0.position.b.length a0_position_b_c, .int .i64 a0.position.at_, .int .i64 a0.position.fault.code, .int .i64 a0.position.fault.at_] a0_T] fun v m' L => L = [.box a0_b #[.slice a0_position_b_a r.position.b.length a0_position_b_c, .int .i64 r.position.at_, .int .i64 r.position.fault.code, .int .i64 r.position.fault.at_] a0_T] ∧ v = .tuple #[] ∧ r.position.b = a0.position.b := by
 unfold G.wire_Reader_Fail at h
 refine enter (args := [_, _, _]) 14 Try.func40 rfl rfl (by simp) fun fr hK => ?_
 have hS := St.refl (hO)
 replace hK : Kn 14 fr [(0, .pointer (some ⟨a0_b, 0, none⟩)), (1, .int .i64 a1), (2, .int .i64 a2)] := hK
 refine w_seq (w_region ?_)
 refine qp 6 (.pointer (some ⟨a0_b, 0, none⟩)) hK fun fr hK => ?_
 refine qp 7 (.bool true) hK fun fr hK => ?_
 refine wpList_nil (then_n ?_)
 refine w_cond_t hK rfl ?_
 refine w_region ?_
 refine qp 8 (.pointer (some ⟨a0_b, 0, none⟩)) hK fun fr hK => ?_
 refine qp 9 (.pointer (some ⟨a0_b, 0, none⟩)) hK fun fr hK => ?_
 refine qp 10 (.pointer (some ⟨a0_b, 0, none⟩)) hK fun fr hK => ?_
 refine qp 11 (.int .i64 a1) hK fun fr hK => ?_
 refine qp 12 (.int .i64 a2) hK fun fr hK => ?_
 obtain ⟨y1, hy1, h⟩ := bind_some h
 replace hS : St _ m m [.box a0_b #[.slice a0_position_b_a a0.position.b.length a0_position_b_c, .int .i64 a0.position.at_, .int .i64 a0.position.fault.code, .int .i64 a0.position.fault.at_] a0_T] := hS
 refine qo 13 hK (s_callM (R := [.box a0_b #[.slice a0_position_b_a a0.position.b.length a0_position_b_c, .int .i64 a0.position.at_, .int .i64 a0.position.fault.code, .int .i64 a0.position.fault.at_] a0_T]) (L := []) hK.at_ hS ent77_1 rfl rfl rfl rfl (G.wire_position_fail_spec a0_position_b_f hy1 (Ow.left (L := [.box a0_b #[.slice a0_position_b_a a0.position.b.length a0_position_b_c, .int .i64 a0.position.at_, .int .i64 a0.position.fault.code, .int .i64 a0.position.fault.at_] a0_T]) hS.ow)) (by kernel_rfl) ?_)
 clear hK fr hS; rintro _ m1 _ l1 hS ⟨rfl, rfl, c1re0⟩ fr hK
 replace hS : St _ m m1 [.box a0_b #[.slice a0_position_b_a y1.b.length a0_position_b_c, .int .i64 y1.at_, .int .i64 y1.fault.code, .int .i64 y1.fault.at_] a0_T] := hS
 refine wpList_nil ?_
 replace a0_position_b_f := Els.mono rep_U8 a0_position_b_f l1
 have f1 : Els isU8 m1 1 a0_position_b_a a0_position_b_c y1.b := Els.cast c1re0.symm a0_position_b_f
 replace h := Option.some.inj h; subst h
 replace hS : St _ m m1 [.box a0_b #[.slice a0_position_b_a y1.b.length a0_position_b_c, .int .i64 y1.at_, .int .i64 y1.fault.code, .int .i64 y1.fault.at_] a0_T] := hS
 refine end_of [] [] rfl hK .nil hS ?_
 exact ⟨rfl, rfl, c1re0⟩
set_option maxRecDepth 100000 in
set_option maxHeartbeats 1000000 in
theorem G.wire_Reader_Length_spec {m : Mem} {a0 : G.wire_Reader} {a0_b : Nat} {a0_position_b_a : Option Addr} {a0_position_b_c : Nat} {a0_T : TypeId} (a0_position_b_f : Els isU8 m 1 a0_position_b_a a0_position_b_c a0.position.b) {r : Int × G.wire_Reader} (h : G.wire_Reader_Length a0 = some r) (hO : Ow m [.box a0_b #[.slice a0_position_b_a a0.position.b.length a0_position_b_c, .int .i64 a0.position.at_, .int .i64 a0.position.fault.code, .int .i64 a0.position.fault.at_] a0_T]) :
  Spec Try.prog 41 #[.pointer (some ⟨a0_b, 0, none⟩)] m [.box a0_b #[.slice a0_position_b_a a0.position.b.length a0_position_b_c, .int .i64 a0.position.at_, .int .i64 a0.position.fault.code, .int .i64 a0.position.fault.at_] a0_T] fun v m' L => L = [.box a0_b #[.slice a0_position_b_a r.2.position.b.length a0_position_b_c, .int .i64 r.2.position.at_, .int .i64 r.2.position.fault.code, .int .i64 r.2.position.fault.at_] a0_T] ∧ v = .int .i64 r.1 ∧ r.2.position.b = a0.position.b := by
 unfold G.wire_Reader_Length at h
 refine enter (args := [_]) 23 Try.func41 rfl rfl (by simp) fun fr hK => ?_
 have hS := St.refl (hO)
 replace hK : Kn 23 fr [(0, .pointer (some ⟨a0_b, 0, none⟩))] := hK
 refine w_seq (w_region ?_)
 refine qp 2 (.int .i64 0) hK fun fr hK => ?_
 refine wpList_nil (then_n ?_)
 refine w_seq ?_
 refine w_seq (w_region ?_)
 refine qp 5 (.pointer (some ⟨a0_b, 0, none⟩)) hK fun fr hK => ?_
 refine qp 6 (.bool false) hK fun fr hK => ?_
 refine wpList_nil (then_n ?_)
 refine w_cond_f hK rfl ?_
 refine wp_skip ?_
 refine then_n ?_
 refine w_seq (w_region ?_)
 refine qp 7 (.pointer (some ⟨a0_b, 0, none⟩)) hK fun fr hK => ?_
 refine qp 8 (.pointer (some ⟨a0_b, 0, none⟩)) hK fun fr hK => ?_
 refine qp 9 (.pointer (some ⟨a0_b, 0, none⟩)) hK fun fr hK => ?_
 refine qp 10 (.pointer (some ⟨a0_b, 1, none⟩)) hK fun fr hK => ?_
 refine qo 11 hK (s_load hK.at_ hS 0 rfl rfl rfl rfl (by kernel_rfl) ?_)
 clear hK fr; intro fr hK
 refine qp 3 (.int .i64 a0.position.at_) hK fun fr hK => ?_
 refine wpList_nil (then_n ?_)
 refine w_seq (w_region ?_)
 refine qp 12 (.pointer (some ⟨a0_b, 0, none⟩)) hK fun fr hK => ?_
 obtain ⟨y1, hy1, h⟩ := bind_some h
 replace hS : St _ m m [.box a0_b #[.slice a0_position_b_a a0.position.b.length a0_position_b_c, .int .i64 a0.position.at_, .int .i64 a0.position.fault.code, .int .i64 a0.position.fault.at_] a0_T] := hS
 refine qo 13 hK (s_callM (R := [.box a0_b #[.slice a0_position_b_a a0.position.b.length a0_position_b_c, .int .i64 a0.position.at_, .int .i64 a0.position.fault.code, .int .i64 a0.position.fault.at_] a0_T]) (L := []) hK.at_ hS ent39_1 rfl rfl rfl rfl (G.wire_Reader_Uint_spec a0_position_b_f hy1 (Ow.left (L := [.box a0_b #[.slice a0_position_b_a a0.position.b.length a0_position_b_c, .int .i64 a0.position.at_, .int .i64 a0.position.fault.code, .int .i64 a0.position.fault.at_] a0_T]) hS.ow)) (by kernel_rfl) ?_)
 clear hK fr hS; rintro _ m1 _ l1 hS ⟨rfl, rfl, c1re0⟩ fr hK
 replace hS : St _ m m1 [.box a0_b #[.slice a0_position_b_a y1.2.position.b.length a0_position_b_c, .int .i64 y1.2.position.at_, .int .i64 y1.2.position.fault.code, .int .i64 y1.2.position.fault.at_] a0_T] := hS
 refine qp 4 (.int .u64 y1.1) hK fun fr hK => ?_
 refine wpList_nil (then_n ?_)
 refine w_seq ?_
 refine w_seq (w_region ?_)
 refine qp 14 (.int .u64 y1.1) hK fun fr hK => ?_
 refine qp 15 (.bool (decide (y1.1 > 4611686018427387903))) hK fun fr hK => ?_
 refine wpList_nil (then_n ?_)
 refine w_cond hK rfl (fun hb1 => ?_) (fun hb1 => ?_)
 ·
  replace hK := hK.more (t := 15) (v' := .bool true) rfl (by rw [hb1])
  replace h := ite_t (of_decide_eq_true hb1) h
  refine w_seq (w_region ?_)
  refine qp 16 (.pointer (some ⟨a0_b, 0, none⟩)) hK fun fr hK => ?_
  refine qp 17 (.pointer (some ⟨a0_b, 0, none⟩)) hK fun fr hK => ?_
  refine qp 18 (.pointer (some ⟨a0_b, 0, none⟩)) hK fun fr hK => ?_
  refine qp 19 (.int .i64 a0.position.at_) hK fun fr hK => ?_
  replace a0_position_b_f := Els.mono rep_U8 a0_position_b_f l1
  have f1 : Els isU8 m1 1 a0_position_b_a a0_position_b_c y1.2.position.b := Els.cast c1re0.symm a0_position_b_f
  obtain ⟨y2, hy2, h⟩ := bind_some h
  replace hS : St _ m m1 [.box a0_b #[.slice a0_position_b_a y1.2.position.b.length a0_position_b_c, .int .i64 y1.2.position.at_, .int .i64 y1.2.position.fault.code, .int .i64 y1.2.position.fault.at_] a0_T] := hS
  refine qo 20 hK (s_callM (R := [.box a0_b #[.slice a0_position_b_a y1.2.position.b.length a0_position_b_c, .int .i64 y1.2.position.at_, .int .i64 y1.2.position.fault.code, .int .i64 y1.2.position.fault.at_] a0_T]) (L := []) hK.at_ hS ent77_1 rfl rfl rfl rfl (G.wire_position_fail_spec f1 hy2 (Ow.left (L := [.box a0_b #[.slice a0_position_b_a y1.2.position.b.length a0_position_b_c, .int .i64 y1.2.position.at_, .int .i64 y1.2.position.fault.code, .int .i64 y1.2.position.fault.at_] a0_T]) hS.ow)) (by kernel_rfl) ?_)
  clear hK fr hS; rintro _ m2 _ l2 hS ⟨rfl, rfl, c2re0⟩ fr hK
  replace hS : St _ m m2 [.box a0_b #[.slice a0_position_b_a y2.b.length a0_position_b_c, .int .i64 y2.at_, .int .i64 y2.fault.code, .int .i64 y2.fault.at_] a0_T] := hS
  refine wpList_nil (then_n ?_)
  refine w_seq (w_region ?_)
  refine qp 2 (.int .i64 0) hK fun fr hK => ?_
  refine wpList_nil (then_n ?_)
  refine wp_ret ?_
  refine then_r ?_
  replace f1 := Els.mono rep_U8 f1 l2
  have f2 : Els isU8 m2 1 a0_position_b_a a0_position_b_c y2.b := Els.cast c2re0.symm f1
  replace h := Option.some.inj h; subst h
  replace hS : St _ m m2 [.box a0_b #[.slice a0_position_b_a y2.b.length a0_position_b_c, .int .i64 y2.at_, .int .i64 y2.fault.code, .int .i64 y2.fault.at_] a0_T] := hS
  refine ret_of [.tmp 2] [.int .i64 0] rfl hK (.tmp rfl .nil) hS ?_
  exact ⟨rfl, rfl, (c2re0.trans c1re0)⟩
 ·
  replace hK := hK.more (t := 15) (v' := .bool false) rfl (by rw [hb1])
  replace h := ite_f (of_decide_eq_false hb1) h
  refine wp_skip ?_
  refine then_n ?_
  refine w_seq (w_region ?_)
  refine qp 21 (.int .u64 y1.1) hK fun fr hK => ?_
  refine qp 22 (.int .i64 (IntKind.i64.wrap y1.1)) hK fun fr hK => ?_
  refine qp 2 (.int .i64 (IntKind.i64.wrap y1.1)) hK fun fr hK => ?_
  refine wpList_nil (then_n ?_)
  refine wp_ret ?_
  replace a0_position_b_f := Els.mono rep_U8 a0_position_b_f l1
  have f1 : Els isU8 m1 1 a0_position_b_a a0_position_b_c y1.2.position.b := Els.cast c1re0.symm a0_position_b_f
  replace h := Option.some.inj h; subst h
  replace hS : St _ m m1 [.box a0_b #[.slice a0_position_b_a y1.2.position.b.length a0_position_b_c, .int .i64 y1.2.position.at_, .int .i64 y1.2.position.fault.code, .int .i64 y1.2.position.fault.at_] a0_T] := hS
  refine ret_of [.tmp 2] [.int .i64 (IntKind.i64.wrap y1.1)] rfl hK (.tmp rfl .nil) hS ?_
  exact ⟨rfl, rfl, c1re0⟩
set_option maxRecDepth 100000 in
set_option maxHeartbeats 1000000 in
theorem G.wire_Reader_Bytes_spec {m : Mem} {a0 : G.wire_Reader} {a0_b : Nat} {a0_position_b_a : Option Addr} {a0_position_b_c : Nat} {a0_T : TypeId} {a1 : Int} (a0_position_b_f : Els isU8 m 1 a0_position_b_a a0_position_b_c a0.position.b) {r : (List UInt8) × G.wire_Reader} (h : G.wire_Reader_Bytes a0 a1 = some r) (hO : Ow m [.box a0_b #[.slice a0_position_b_a a0.position.b.length a0_position_b_c, .int .i64 a0.position.at_, .int .i64 a0.position.fault.code, .int .i64 a0.position.fault.at_] a0_T]) :
  Spec Try.prog 80 #[.pointer (some ⟨a0_b, 0, none⟩), .int .i64 a1] m [.box a0_b #[.slice a0_position_b_a a0.position.b.length a0_position_b_c, .int .i64 a0.position.at_, .int .i64 a0.position.fault.code, .int .i64 a0.position.fault.at_] a0_T] fun v m' L => ∃ (r0_g : Option Nat) (r0_c : Nat), L = [.box a0_b #[.slice a0_position_b_a r.2.position.b.length a0_position_b_c, .int .i64 r.2.position.at_, .int .i64 r.2.position.fault.code, .int .i64 r.2.position.fault.at_] a0_T, rowOf 5 1 r0_g r0_c r.1] ∧ v = .slice (adr r0_g) r.1.length r0_c ∧ Els isU8 m' 1 (adr r0_g) r0_c r.1 ∧ r.2.position.b = a0.position.b := by
 unfold G.wire_Reader_Bytes at h
 refine enter (args := [_, _]) 19 Try.func80 rfl rfl (by simp) fun fr hK => ?_
 have hS := St.refl (hO)
 replace hK : Kn 19 fr [(0, .pointer (some ⟨a0_b, 0, none⟩)), (1, .int .i64 a1)] := hK
 refine w_seq (w_region ?_)
 refine qp 4 (.slice none 0 0) hK fun fr hK => ?_
 refine wpList_nil (then_n ?_)
 refine w_seq ?_
 refine w_seq (w_region ?_)
 refine qp 7 (.pointer (some ⟨a0_b, 0, none⟩)) hK fun fr hK => ?_
 refine qp 8 (.bool false) hK fun fr hK => ?_
 refine wpList_nil (then_n ?_)
 refine w_cond_f hK rfl ?_
 refine wp_skip ?_
 refine then_n ?_
 refine w_seq (w_region ?_)
 refine qp 10 (.pointer (some ⟨a0_b, 0, none⟩)) hK fun fr hK => ?_
 refine qp 11 (.pointer (some ⟨a0_b, 0, none⟩)) hK fun fr hK => ?_
 refine qp 12 (.pointer (some ⟨a0_b, 0, none⟩)) hK fun fr hK => ?_
 refine qp 13 (.int .i64 a1) hK fun fr hK => ?_
 obtain ⟨y1, hy1, h⟩ := bind_some h
 replace hS : St _ m m [.box a0_b #[.slice a0_position_b_a a0.position.b.length a0_position_b_c, .int .i64 a0.position.at_, .int .i64 a0.position.fault.code, .int .i64 a0.position.fault.at_] a0_T] := hS
 refine qo 14 hK (s_callM (R := [.box a0_b #[.slice a0_position_b_a a0.position.b.length a0_position_b_c, .int .i64 a0.position.at_, .int .i64 a0.position.fault.code, .int .i64 a0.position.fault.at_] a0_T]) (L := []) hK.at_ hS ent78_1 rfl rfl rfl rfl (G.wire_position_take_spec a0_position_b_f hy1 (Ow.left (L := [.box a0_b #[.slice a0_position_b_a a0.position.b.length a0_position_b_c, .int .i64 a0.position.at_, .int .i64 a0.position.fault.code, .int .i64 a0.position.fault.at_] a0_T]) hS.ow)) (by kernel_rfl) ?_)
 clear hK fr hS; rintro _ m1 _ l1 hS ⟨c1r0_a, c1r0_c, rfl, rfl, c1r0_f, c1re0⟩ fr hK
 replace hS : St _ m m1 [.box a0_b #[.slice a0_position_b_a y1.2.2.b.length a0_position_b_c, .int .i64 y1.2.2.at_, .int .i64 y1.2.2.fault.code, .int .i64 y1.2.2.fault.at_] a0_T] := hS
 refine qp 9 (.tuple #[.slice c1r0_a y1.1.length c1r0_c, .bool y1.2.1]) hK fun fr hK => ?_
 refine qp 15 (.slice c1r0_a y1.1.length c1r0_c) hK fun fr hK => ?_
 refine qp 16 (.bool y1.2.1) hK fun fr hK => ?_
 refine qp 5 (.slice c1r0_a y1.1.length c1r0_c) hK fun fr hK => ?_
 refine qp 6 (.bool y1.2.1) hK fun fr hK => ?_
 refine wpList_nil (then_n ?_)
 refine w_seq (w_region ?_)
 refine qp 17 (.slice c1r0_a y1.1.length c1r0_c) hK fun fr hK => ?_
 obtain ⟨y2, hy2, h⟩ := bind_some h
 refine qo 18 hK (s_call hK.at_ hS ent75_1 rfl rfl rfl rfl (G.slices_Clone_byte_byte_spec c1r0_f hy2) (by kernel_rfl) ?_)
 clear hK fr hS; rintro _ m2 _ l2 hS ⟨c2r0_g, c2r0_c, rfl, rfl, c2r0_f⟩ fr hK
 replace hS : St _ m m2 [rowOf 5 1 c2r0_g c2r0_c y2, .box a0_b #[.slice a0_position_b_a y1.2.2.b.length a0_position_b_c, .int .i64 y1.2.2.at_, .int .i64 y1.2.2.fault.code, .int .i64 y1.2.2.fault.at_] a0_T] := hS
 refine qp 4 (.slice (adr c2r0_g) y2.length c2r0_c) hK fun fr hK => ?_
 refine wpList_nil (then_n ?_)
 refine wp_ret ?_
 replace a0_position_b_f := Els.mono rep_U8 a0_position_b_f (l1.trans l2)
 have f1 : Els isU8 m2 1 a0_position_b_a a0_position_b_c y1.2.2.b := Els.cast c1re0.symm a0_position_b_f
 replace h := Option.some.inj h; subst h
 replace hS := hS.front 1 rfl
 replace hS : St _ m m2 [.box a0_b #[.slice a0_position_b_a y1.2.2.b.length a0_position_b_c, .int .i64 y1.2.2.at_, .int .i64 y1.2.2.fault.code, .int .i64 y1.2.2.fault.at_] a0_T, rowOf 5 1 c2r0_g c2r0_c y2] := hS
 refine ret_of [.tmp 4] [.slice (adr c2r0_g) y2.length c2r0_c] rfl hK (.tmp rfl .nil) hS ?_
 exact ⟨c2r0_g, c2r0_c, rfl, rfl, c2r0_f, c1re0⟩
set_option maxRecDepth 100000 in
set_option maxHeartbeats 1000000 in
theorem G.format_decoder_hash_spec {m : Mem} {a0 : G.format_decoder} {a0_reader_b : Nat} {a0_reader_position_b_a : Option Addr} {a0_reader_position_b_c : Nat} {a0_reader_T : TypeId} (a0_reader_position_b_f : Els isU8 m 1 a0_reader_position_b_a a0_reader_position_b_c a0.reader.position.b) {r : (Nat → UInt8) × G.wire_Reader} (h : G.format_decoder_hash a0 = some r) (hO : Ow m [.box a0_reader_b #[.slice a0_reader_position_b_a a0.reader.position.b.length a0_reader_position_b_c, .int .i64 a0.reader.position.at_, .int .i64 a0.reader.position.fault.code, .int .i64 a0.reader.position.fault.at_] a0_reader_T]) :
  Spec Try.prog 42 #[.agg #[.pointer (some ⟨a0_reader_b, 0, none⟩)]] m [.box a0_reader_b #[.slice a0_reader_position_b_a a0.reader.position.b.length a0_reader_position_b_c, .int .i64 a0.reader.position.at_, .int .i64 a0.reader.position.fault.code, .int .i64 a0.reader.position.fault.at_] a0_reader_T] fun v m' L => L = [.box a0_reader_b #[.slice a0_reader_position_b_a r.2.position.b.length a0_reader_position_b_c, .int .i64 r.2.position.at_, .int .i64 r.2.position.fault.code, .int .i64 r.2.position.fault.at_] a0_reader_T] ∧ v = .agg #[.int .u8 ((r.1 0).toNat : Int), .int .u8 ((r.1 1).toNat : Int), .int .u8 ((r.1 2).toNat : Int), .int .u8 ((r.1 3).toNat : Int), .int .u8 ((r.1 4).toNat : Int), .int .u8 ((r.1 5).toNat : Int), .int .u8 ((r.1 6).toNat : Int), .int .u8 ((r.1 7).toNat : Int), .int .u8 ((r.1 8).toNat : Int), .int .u8 ((r.1 9).toNat : Int), .int .u8 ((r.1 10).toNat : Int), .int .u8 ((r.1 11).toNat : Int), .int .u8 ((r.1 12).toNat : Int), .int .u8 ((r.1 13).toNat : Int), .int .u8 ((r.1 14).toNat : Int), .int .u8 ((r.1 15).toNat : Int), .int .u8 ((r.1 16).toNat : Int), .int .u8 ((r.1 17).toNat : Int), .int .u8 ((r.1 18).toNat : Int), .int .u8 ((r.1 19).toNat : Int), .int .u8 ((r.1 20).toNat : Int), .int .u8 ((r.1 21).toNat : Int), .int .u8 ((r.1 22).toNat : Int), .int .u8 ((r.1 23).toNat : Int), .int .u8 ((r.1 24).toNat : Int), .int .u8 ((r.1 25).toNat : Int), .int .u8 ((r.1 26).toNat : Int), .int .u8 ((r.1 27).toNat : Int), .int .u8 ((r.1 28).toNat : Int), .int .u8 ((r.1 29).toNat : Int), .int .u8 ((r.1 30).toNat : Int), .int .u8 ((r.1 31).toNat : Int)] ∧ r.2.position.b = a0.reader.position.b := by
 unfold G.format_decoder_hash at h
 refine enter (args := [_]) 10 Try.func42 rfl rfl (by simp) fun fr hK => ?_
 have hS := St.refl (hO)
 replace hK : Kn 10 fr [(0, .agg #[.pointer (some ⟨a0_reader_b, 0, none⟩)])] := hK
 refine w_seq (w_region ?_)
 refine qo 1 hK (s_box hK.at_ hS rfl rfl ?_)
 clear hK fr hS; intro m1 b1 b1z l1 hS fr hK
 refine qo 2 hK (s_alloc (.agg #[.int .u8 0, .int .u8 0, .int .u8 0, .int .u8 0, .int .u8 0, .int .u8 0, .int .u8 0, .int .u8 0, .int .u8 0, .int .u8 0, .int .u8 0, .int .u8 0, .int .u8 0, .int .u8 0, .int .u8 0, .int .u8 0, .int .u8 0, .int .u8 0, .int .u8 0, .int .u8 0, .int .u8 0, .int .u8 0, .int .u8 0, .int .u8 0, .int .u8 0, .int .u8 0, .int .u8 0, .int .u8 0, .int .u8 0, .int .u8 0, .int .u8 0, .int .u8 0]) hK.at_ hS rfl (by kernel_rfl) ?_)
 clear hK fr hS; intro m2 b2 b2z l2 hS fr hK
 replace hS : St _ m m2 [.box b2 #[.int .u8 0, .int .u8 0, .int .u8 0, .int .u8 0, .int .u8 0, .int .u8 0, .int .u8 0, .int .u8 0, .int .u8 0, .int .u8 0, .int .u8 0, .int .u8 0, .int .u8 0, .int .u8 0, .int .u8 0, .int .u8 0, .int .u8 0, .int .u8 0, .int .u8 0, .int .u8 0, .int .u8 0, .int .u8 0, .int .u8 0, .int .u8 0, .int .u8 0, .int .u8 0, .int .u8 0, .int .u8 0, .int .u8 0, .int .u8 0, .int .u8 0, .int .u8 0] 24, .box b1 #[.pointer (some ⟨a0_reader_b, 0, none⟩)] 61, .box a0_reader_b #[.slice a0_reader_position_b_a a0.reader.position.b.length a0_reader_position_b_c, .int .i64 a0.reader.position.at_, .int .i64 a0.reader.position.fault.code, .int .i64 a0.reader.position.fault.at_] a0_reader_T] := hS
 refine wpList_nil (then_n ?_)
 refine w_seq (w_region ?_)
 refine qo 3 hK (s_alloc (.agg #[.int .u8 0, .int .u8 0, .int .u8 0, .int .u8 0, .int .u8 0, .int .u8 0, .int .u8 0, .int .u8 0, .int .u8 0, .int .u8 0, .int .u8 0, .int .u8 0, .int .u8 0, .int .u8 0, .int .u8 0, .int .u8 0, .int .u8 0, .int .u8 0, .int .u8 0, .int .u8 0, .int .u8 0, .int .u8 0, .int .u8 0, .int .u8 0, .int .u8 0, .int .u8 0, .int .u8 0, .int .u8 0, .int .u8 0, .int .u8 0, .int .u8 0, .int .u8 0]) hK.at_ hS rfl (by kernel_rfl) ?_)
 clear hK fr hS; intro m3 b3 b3z l3 hS fr hK
 replace hS : St _ m m3 [.box b3 #[.int .u8 0, .int .u8 0, .int .u8 0, .int .u8 0, .int .u8 0, .int .u8 0, .int .u8 0, .int .u8 0, .int .u8 0, .int .u8 0, .int .u8 0, .int .u8 0, .int .u8 0, .int .u8 0, .int .u8 0, .int .u8 0, .int .u8 0, .int .u8 0, .int .u8 0, .int .u8 0, .int .u8 0, .int .u8 0, .int .u8 0, .int .u8 0, .int .u8 0, .int .u8 0, .int .u8 0, .int .u8 0, .int .u8 0, .int .u8 0, .int .u8 0, .int .u8 0] 24, .box b2 #[.int .u8 0, .int .u8 0, .int .u8 0, .int .u8 0, .int .u8 0, .int .u8 0, .int .u8 0, .int .u8 0, .int .u8 0, .int .u8 0, .int .u8 0, .int .u8 0, .int .u8 0, .int .u8 0, .int .u8 0, .int .u8 0, .int .u8 0, .int .u8 0, .int .u8 0, .int .u8 0, .int .u8 0, .int .u8 0, .int .u8 0, .int .u8 0, .int .u8 0, .int .u8 0, .int .u8 0, .int .u8 0, .int .u8 0, .int .u8 0, .int .u8 0, .int .u8 0] 24, .box b1 #[.pointer (some ⟨a0_reader_b, 0, none⟩)] 61, .box a0_reader_b #[.slice a0_reader_position_b_a a0.reader.position.b.length a0_reader_position_b_c, .int .i64 a0.reader.position.at_, .int .i64 a0.reader.position.fault.code, .int .i64 a0.reader.position.fault.at_] a0_reader_T] := hS
 refine wpList_nil (then_n ?_)
 refine w_seq ?_
 replace a0_reader_position_b_f := Els.mono rep_U8 a0_reader_position_b_f (l1.trans (l2.trans l3))
 replace hS := hS.front 3 rfl
 obtain ⟨y1, hy1, h⟩ := bind_some h
 have hm0 : ∀ p ∈ ([(fun _ A _ => A = [.box a0_reader_b #[.slice a0_reader_position_b_a a0.reader.position.b.length a0_reader_position_b_c, .int .i64 a0.reader.position.at_, .int .i64 a0.reader.position.fault.code, .int .i64 a0.reader.position.fault.at_] a0_reader_T]), (fun l A M => ∃ (c1r0_g : Option Nat) (c1r0_c : Nat), l[0]? = some (.slice (adr c1r0_g) y1.1.length c1r0_c) ∧ A = [.box a0_reader_b #[.slice a0_reader_position_b_a y1.2.position.b.length a0_reader_position_b_c, .int .i64 y1.2.position.at_, .int .i64 y1.2.position.fault.code, .int .i64 y1.2.position.fault.at_] a0_reader_T, rowOf 5 1 c1r0_g c1r0_c y1.1] ∧ Els isU8 M 1 (adr c1r0_g) c1r0_c y1.1 ∧ y1.2.position.b = a0.reader.position.b)] : List D.Stage), D.MonoP p := D.allP_cons (fun _ _ _ _ h _ => h) (D.allP_cons (fun _ _ _ _ ⟨c1r0_g, c1r0_c, el0, eA, c1r0_f, eq0⟩ hl => ⟨c1r0_g, c1r0_c, el0, eA, Els.mono rep_U8 c1r0_f hl, eq0⟩) (D.allP_nil))
 have hCm := D.C1_mono [.box b3 #[.int .u8 0, .int .u8 0, .int .u8 0, .int .u8 0, .int .u8 0, .int .u8 0, .int .u8 0, .int .u8 0, .int .u8 0, .int .u8 0, .int .u8 0, .int .u8 0, .int .u8 0, .int .u8 0, .int .u8 0, .int .u8 0, .int .u8 0, .int .u8 0, .int .u8 0, .int .u8 0, .int .u8 0, .int .u8 0, .int .u8 0, .int .u8 0, .int .u8 0, .int .u8 0, .int .u8 0, .int .u8 0, .int .u8 0, .int .u8 0, .int .u8 0, .int .u8 0] 24, .box b2 #[.int .u8 0, .int .u8 0, .int .u8 0, .int .u8 0, .int .u8 0, .int .u8 0, .int .u8 0, .int .u8 0, .int .u8 0, .int .u8 0, .int .u8 0, .int .u8 0, .int .u8 0, .int .u8 0, .int .u8 0, .int .u8 0, .int .u8 0, .int .u8 0, .int .u8 0, .int .u8 0, .int .u8 0, .int .u8 0, .int .u8 0, .int .u8 0, .int .u8 0, .int .u8 0, .int .u8 0, .int .u8 0, .int .u8 0, .int .u8 0, .int .u8 0, .int .u8 0] 24, .box b1 #[.pointer (some ⟨a0_reader_b, 0, none⟩)] 61] hm0
 refine D.wp_drawM (m0 := m3) 4 [[3]] [([(3, none)], [(0, 1)], none), ([(1, none)], [(0, 0)], none), ([(5, some 0)], [(0, 0)], none), ([(6, some 0)], [(0, 0)], some 0)] (D.SM m3 m (blocksOf [.box a0_reader_b #[.slice a0_reader_position_b_a a0.reader.position.b.length a0_reader_position_b_c, .int .i64 a0.reader.position.at_, .int .i64 a0.reader.position.fault.code, .int .i64 a0.reader.position.fault.at_] a0_reader_T]) (D.C1 [(fun _ A _ => A = [.box a0_reader_b #[.slice a0_reader_position_b_a a0.reader.position.b.length a0_reader_position_b_c, .int .i64 a0.reader.position.at_, .int .i64 a0.reader.position.fault.code, .int .i64 a0.reader.position.fault.at_] a0_reader_T]), (fun l A M => ∃ (c1r0_g : Option Nat) (c1r0_c : Nat), l[0]? = some (.slice (adr c1r0_g) y1.1.length c1r0_c) ∧ A = [.box a0_reader_b #[.slice a0_reader_position_b_a y1.2.position.b.length a0_reader_position_b_c, .int .i64 y1.2.position.at_, .int .i64 y1.2.position.fault.code, .int .i64 y1.2.position.fault.at_] a0_reader_T, rowOf 5 1 c1r0_g c1r0_c y1.1] ∧ Els isU8 M 1 (adr c1r0_g) c1r0_c y1.1 ∧ y1.2.position.b = a0.reader.position.b)] [.box b3 #[.int .u8 0, .int .u8 0, .int .u8 0, .int .u8 0, .int .u8 0, .int .u8 0, .int .u8 0, .int .u8 0, .int .u8 0, .int .u8 0, .int .u8 0, .int .u8 0, .int .u8 0, .int .u8 0, .int .u8 0, .int .u8 0, .int .u8 0, .int .u8 0, .int .u8 0, .int .u8 0, .int .u8 0, .int .u8 0, .int .u8 0, .int .u8 0, .int .u8 0, .int .u8 0, .int .u8 0, .int .u8 0, .int .u8 0, .int .u8 0, .int .u8 0, .int .u8 0] 24, .box b2 #[.int .u8 0, .int .u8 0, .int .u8 0, .int .u8 0, .int .u8 0, .int .u8 0, .int .u8 0, .int .u8 0, .int .u8 0, .int .u8 0, .int .u8 0, .int .u8 0, .int .u8 0, .int .u8 0, .int .u8 0, .int .u8 0, .int .u8 0, .int .u8 0, .int .u8 0, .int .u8 0, .int .u8 0, .int .u8 0, .int .u8 0, .int .u8 0, .int .u8 0, .int .u8 0, .int .u8 0, .int .u8 0, .int .u8 0, .int .u8 0, .int .u8 0, .int .u8 0] 24, .box b1 #[.pointer (some ⟨a0_reader_b, 0, none⟩)] 61])) hK.size (by kernel_rfl) (by kernel_rfl) (by kernel_rfl) (D.start1 hS (fun _ => rfl)) ?_
 refine D.onP [(3, .pointer (some ⟨b3, 0, none⟩))] (.slice (some ⟨b3, 0, none⟩) 32 32) (fun ac MM hk => (.cons (hk.1.trans (hK.at_ 3 _ rfl)) (.nil _))) ?_
 refine D.onP [(1, .pointer (some ⟨b1, 0, none⟩))] (.pointer (some ⟨b1, 0, none⟩)) (fun ac MM hk => (.cons (hk.1.trans (hK.at_ 1 _ rfl)) (.nil _))) ?_
 refine D.onA (fun uu _ => uu = .pointer (some ⟨a0_reader_b, 0, none⟩)) (fun _ _ _ h _ => h) (by
  intro ac MM vs hbd hcor hS00 hk; have hS0 := hS00
  obtain ⟨hle, LL, hC, hSt⟩ := hS0
  have hSt0 := hSt
  have hC0 := hC; obtain ⟨A0, h0, rfl⟩ := hC
  have hS := D.St_right (hSt)
  have k5 : ac.eval (.tmp 5) = .pointer (some ⟨b1, 0, none⟩) := hk.1
  have hKe : Ke ac [(5, .pointer (some ⟨b1, 0, none⟩))] := (.cons k5 (.nil _))
  exact ⟨D.wanted0 rfl, s_load hKe hS 2 rfl rfl rfl rfl (by kernel_rfl) ⟨MM, rfl, Le.refl _, rfl, hS00⟩⟩) ?_
 refine D.onA (fun uu MM => ∃ (c1r0_g : Option Nat) (c1r0_c : Nat), uu = .slice (adr c1r0_g) y1.1.length c1r0_c ∧ Els isU8 MM 1 (adr c1r0_g) c1r0_c y1.1) (fun _ _ _ ⟨c1r0_g, c1r0_c, e, c1r0_f⟩ g => ⟨c1r0_g, c1r0_c, e, Els.mono rep_U8 c1r0_f g⟩) (by
  intro ac MM vs hbd hcor hS00 hk; have hS0 := hS00
  obtain ⟨hle, LL, hC, hSt⟩ := hS0
  have hSt0 := hSt
  have hC0 := hC; obtain ⟨A0, h0, rfl⟩ := hC
  have hn := D.bd_eq hbd 0 0 rfl
  obtain rfl := D.CH.at h0 hn rfl
  replace hSt := hSt
  have k6 : ac.eval (.tmp 6) = .pointer (some ⟨a0_reader_b, 0, none⟩) := hk.1
  have hKe : Ke ac [(6, .pointer (some ⟨a0_reader_b, 0, none⟩))] := (.cons k6 (.nil _))
  replace a0_reader_position_b_f := Els.mono rep_U8 a0_reader_position_b_f hle
  exact ⟨D.wanted0 rfl, s_callM (R := [.box a0_reader_b #[.slice a0_reader_position_b_a a0.reader.position.b.length a0_reader_position_b_c, .int .i64 a0.reader.position.at_, .int .i64 a0.reader.position.fault.code, .int .i64 a0.reader.position.fault.at_] a0_reader_T]) hKe hSt ent80_1 rfl rfl rfl rfl (G.wire_Reader_Bytes_spec a0_reader_position_b_f hy1 (Ow.left (L := [.box a0_reader_b #[.slice a0_reader_position_b_a a0.reader.position.b.length a0_reader_position_b_c, .int .i64 a0.reader.position.at_, .int .i64 a0.reader.position.fault.code, .int .i64 a0.reader.position.fault.at_] a0_reader_T]) hSt.ow)) (by kernel_rfl) (by
    rintro _ M2 _ l2 hS2 ⟨c1r0_g, c1r0_c, rfl, rfl, c1r0_f, eq0⟩
    exact ⟨M2, rfl, l2, ⟨c1r0_g, c1r0_c, rfl, c1r0_f⟩, hle.trans l2, _, ⟨_, D.CH.push hn rfl ⟨c1r0_g, c1r0_c, D.get_push hn, rfl, c1r0_f, eq0⟩, rfl⟩, hS2⟩)⟩) ?_
 intro fr2 m4 vs hlen hcor hS2 hE; obtain ⟨l4, LL, hC, hS2⟩ := hS2
 obtain ⟨A0, h0, rfl⟩ := hC
 obtain ⟨c1r0_g, c1r0_c, el0_0, rfl, c1r0_f, eq0_0⟩ := D.CH.at h0 (hlen 0) rfl
 replace hS2 : St _ m m4 [.box a0_reader_b #[.slice a0_reader_position_b_a y1.2.position.b.length a0_reader_position_b_c, .int .i64 y1.2.position.at_, .int .i64 y1.2.position.fault.code, .int .i64 y1.2.position.fault.at_] a0_reader_T, rowOf 5 1 c1r0_g c1r0_c y1.1, .box b3 #[.int .u8 0, .int .u8 0, .int .u8 0, .int .u8 0, .int .u8 0, .int .u8 0, .int .u8 0, .int .u8 0, .int .u8 0, .int .u8 0, .int .u8 0, .int .u8 0, .int .u8 0, .int .u8 0, .int .u8 0, .int .u8 0, .int .u8 0, .int .u8 0, .int .u8 0, .int .u8 0, .int .u8 0, .int .u8 0, .int .u8 0, .int .u8 0, .int .u8 0, .int .u8 0, .int .u8 0, .int .u8 0, .int .u8 0, .int .u8 0, .int .u8 0, .int .u8 0] 24, .box b2 #[.int .u8 0, .int .u8 0, .int .u8 0, .int .u8 0, .int .u8 0, .int .u8 0, .int .u8 0, .int .u8 0, .int .u8 0, .int .u8 0, .int .u8 0, .int .u8 0, .int .u8 0, .int .u8 0, .int .u8 0, .int .u8 0, .int .u8 0, .int .u8 0, .int .u8 0, .int .u8 0, .int .u8 0, .int .u8 0, .int .u8 0, .int .u8 0, .int .u8 0, .int .u8 0, .int .u8 0, .int .u8 0, .int .u8 0, .int .u8 0, .int .u8 0, .int .u8 0] 24, .box b1 #[.pointer (some ⟨a0_reader_b, 0, none⟩)] 61] := hS2
 have kl7 : fr2.eval (.tmp 7) = .slice (adr c1r0_g) y1.1.length c1r0_c := hcor 0 0 _ _ _ _ rfl rfl rfl el0_0
 have hK2 := D.kn_endsM [(4, .slice (some ⟨b3, 0, none⟩) 32 32), (5, .pointer (some ⟨b1, 0, none⟩)), (6, .pointer (some ⟨a0_reader_b, 0, none⟩)), (7, .slice (adr c1r0_g) y1.1.length c1r0_c)] hK hE rfl (by kernel_rfl) (.cons (hE.slots 4) (.cons (hE.slots 5) (.cons (hE.slots 6) (.cons (kl7) (.nil _)))))
 replace hK2 : Kn 10 fr2 [(4, .slice (some ⟨b3, 0, none⟩) 32 32), (5, .pointer (some ⟨b1, 0, none⟩)), (6, .pointer (some ⟨a0_reader_b, 0, none⟩)), (7, .slice (adr c1r0_g) y1.1.length c1r0_c), (3, .pointer (some ⟨b3, 0, none⟩)), (2, .pointer (some ⟨b2, 0, none⟩)), (1, .pointer (some ⟨b1, 0, none⟩)), (0, .agg #[.pointer (some ⟨a0_reader_b, 0, none⟩)])] := hK2.only [4, 5, 6, 7, 3, 2, 1, 0]
 clear hE hK hcor hlen kl7 h0 el0_0; revert hK2; clear hS; revert fr2; clear fr; intro fr hK; have hS := hS2; clear hS2 hCm hm0
 replace hS : St _ m m4 [.box a0_reader_b #[.slice a0_reader_position_b_a y1.2.position.b.length a0_reader_position_b_c, .int .i64 y1.2.position.at_, .int .i64 y1.2.position.fault.code, .int .i64 y1.2.position.fault.at_] a0_reader_T, rowOf 5 1 c1r0_g c1r0_c y1.1, .box b3 #[.int .u8 0, .int .u8 0, .int .u8 0, .int .u8 0, .int .u8 0, .int .u8 0, .int .u8 0, .int .u8 0, .int .u8 0, .int .u8 0, .int .u8 0, .int .u8 0, .int .u8 0, .int .u8 0, .int .u8 0, .int .u8 0, .int .u8 0, .int .u8 0, .int .u8 0, .int .u8 0, .int .u8 0, .int .u8 0, .int .u8 0, .int .u8 0, .int .u8 0, .int .u8 0, .int .u8 0, .int .u8 0, .int .u8 0, .int .u8 0, .int .u8 0, .int .u8 0] 24, .box b2 #[.int .u8 0, .int .u8 0, .int .u8 0, .int .u8 0, .int .u8 0, .int .u8 0, .int .u8 0, .int .u8 0, .int .u8 0, .int .u8 0, .int .u8 0, .int .u8 0, .int .u8 0, .int .u8 0, .int .u8 0, .int .u8 0, .int .u8 0, .int .u8 0, .int .u8 0, .int .u8 0, .int .u8 0, .int .u8 0, .int .u8 0, .int .u8 0, .int .u8 0, .int .u8 0, .int .u8 0, .int .u8 0, .int .u8 0, .int .u8 0, .int .u8 0, .int .u8 0] 24, .box b1 #[.pointer (some ⟨a0_reader_b, 0, none⟩)] 61] := hS
 refine qo 8 hK (s_copy elT22_1 hK.at_ 2 hS rfl c1r0_f rfl rfl rfl (by decide) ?_)
 clear hK fr hS; intro m5 l5 hS fr hK
 have hc1 : putAt #[.int .u8 0, .int .u8 0, .int .u8 0, .int .u8 0, .int .u8 0, .int .u8 0, .int .u8 0, .int .u8 0, .int .u8 0, .int .u8 0, .int .u8 0, .int .u8 0, .int .u8 0, .int .u8 0, .int .u8 0, .int .u8 0, .int .u8 0, .int .u8 0, .int .u8 0, .int .u8 0, .int .u8 0, .int .u8 0, .int .u8 0, .int .u8 0, .int .u8 0, .int .u8 0, .int .u8 0, .int .u8 0, .int .u8 0, .int .u8 0, .int .u8 0, .int .u8 0] 0 ((y1.1.take 32).map U8) = #[.int .u8 (((cpArr 32 (fun _ => (0 : UInt8)) y1.1) 0).toNat : Int), .int .u8 (((cpArr 32 (fun _ => (0 : UInt8)) y1.1) 1).toNat : Int), .int .u8 (((cpArr 32 (fun _ => (0 : UInt8)) y1.1) 2).toNat : Int), .int .u8 (((cpArr 32 (fun _ => (0 : UInt8)) y1.1) 3).toNat : Int), .int .u8 (((cpArr 32 (fun _ => (0 : UInt8)) y1.1) 4).toNat : Int), .int .u8 (((cpArr 32 (fun _ => (0 : UInt8)) y1.1) 5).toNat : Int), .int .u8 (((cpArr 32 (fun _ => (0 : UInt8)) y1.1) 6).toNat : Int), .int .u8 (((cpArr 32 (fun _ => (0 : UInt8)) y1.1) 7).toNat : Int), .int .u8 (((cpArr 32 (fun _ => (0 : UInt8)) y1.1) 8).toNat : Int), .int .u8 (((cpArr 32 (fun _ => (0 : UInt8)) y1.1) 9).toNat : Int), .int .u8 (((cpArr 32 (fun _ => (0 : UInt8)) y1.1) 10).toNat : Int), .int .u8 (((cpArr 32 (fun _ => (0 : UInt8)) y1.1) 11).toNat : Int), .int .u8 (((cpArr 32 (fun _ => (0 : UInt8)) y1.1) 12).toNat : Int), .int .u8 (((cpArr 32 (fun _ => (0 : UInt8)) y1.1) 13).toNat : Int), .int .u8 (((cpArr 32 (fun _ => (0 : UInt8)) y1.1) 14).toNat : Int), .int .u8 (((cpArr 32 (fun _ => (0 : UInt8)) y1.1) 15).toNat : Int), .int .u8 (((cpArr 32 (fun _ => (0 : UInt8)) y1.1) 16).toNat : Int), .int .u8 (((cpArr 32 (fun _ => (0 : UInt8)) y1.1) 17).toNat : Int), .int .u8 (((cpArr 32 (fun _ => (0 : UInt8)) y1.1) 18).toNat : Int), .int .u8 (((cpArr 32 (fun _ => (0 : UInt8)) y1.1) 19).toNat : Int), .int .u8 (((cpArr 32 (fun _ => (0 : UInt8)) y1.1) 20).toNat : Int), .int .u8 (((cpArr 32 (fun _ => (0 : UInt8)) y1.1) 21).toNat : Int), .int .u8 (((cpArr 32 (fun _ => (0 : UInt8)) y1.1) 22).toNat : Int), .int .u8 (((cpArr 32 (fun _ => (0 : UInt8)) y1.1) 23).toNat : Int), .int .u8 (((cpArr 32 (fun _ => (0 : UInt8)) y1.1) 24).toNat : Int), .int .u8 (((cpArr 32 (fun _ => (0 : UInt8)) y1.1) 25).toNat : Int), .int .u8 (((cpArr 32 (fun _ => (0 : UInt8)) y1.1) 26).toNat : Int), .int .u8 (((cpArr 32 (fun _ => (0 : UInt8)) y1.1) 27).toNat : Int), .int .u8 (((cpArr 32 (fun _ => (0 : UInt8)) y1.1) 28).toNat : Int), .int .u8 (((cpArr 32 (fun _ => (0 : UInt8)) y1.1) 29).toNat : Int), .int .u8 (((cpArr 32 (fun _ => (0 : UInt8)) y1.1) 30).toNat : Int), .int .u8 (((cpArr 32 (fun _ => (0 : UInt8)) y1.1) 31).toNat : Int)] := copy_arr (fun _ => (0 : UInt8)) y1.1
 rw [hc1] at hS
 replace hS : St _ m m5 [.box b3 #[.int .u8 (((cpArr 32 (fun _ => (0 : UInt8)) y1.1) 0).toNat : Int), .int .u8 (((cpArr 32 (fun _ => (0 : UInt8)) y1.1) 1).toNat : Int), .int .u8 (((cpArr 32 (fun _ => (0 : UInt8)) y1.1) 2).toNat : Int), .int .u8 (((cpArr 32 (fun _ => (0 : UInt8)) y1.1) 3).toNat : Int), .int .u8 (((cpArr 32 (fun _ => (0 : UInt8)) y1.1) 4).toNat : Int), .int .u8 (((cpArr 32 (fun _ => (0 : UInt8)) y1.1) 5).toNat : Int), .int .u8 (((cpArr 32 (fun _ => (0 : UInt8)) y1.1) 6).toNat : Int), .int .u8 (((cpArr 32 (fun _ => (0 : UInt8)) y1.1) 7).toNat : Int), .int .u8 (((cpArr 32 (fun _ => (0 : UInt8)) y1.1) 8).toNat : Int), .int .u8 (((cpArr 32 (fun _ => (0 : UInt8)) y1.1) 9).toNat : Int), .int .u8 (((cpArr 32 (fun _ => (0 : UInt8)) y1.1) 10).toNat : Int), .int .u8 (((cpArr 32 (fun _ => (0 : UInt8)) y1.1) 11).toNat : Int), .int .u8 (((cpArr 32 (fun _ => (0 : UInt8)) y1.1) 12).toNat : Int), .int .u8 (((cpArr 32 (fun _ => (0 : UInt8)) y1.1) 13).toNat : Int), .int .u8 (((cpArr 32 (fun _ => (0 : UInt8)) y1.1) 14).toNat : Int), .int .u8 (((cpArr 32 (fun _ => (0 : UInt8)) y1.1) 15).toNat : Int), .int .u8 (((cpArr 32 (fun _ => (0 : UInt8)) y1.1) 16).toNat : Int), .int .u8 (((cpArr 32 (fun _ => (0 : UInt8)) y1.1) 17).toNat : Int), .int .u8 (((cpArr 32 (fun _ => (0 : UInt8)) y1.1) 18).toNat : Int), .int .u8 (((cpArr 32 (fun _ => (0 : UInt8)) y1.1) 19).toNat : Int), .int .u8 (((cpArr 32 (fun _ => (0 : UInt8)) y1.1) 20).toNat : Int), .int .u8 (((cpArr 32 (fun _ => (0 : UInt8)) y1.1) 21).toNat : Int), .int .u8 (((cpArr 32 (fun _ => (0 : UInt8)) y1.1) 22).toNat : Int), .int .u8 (((cpArr 32 (fun _ => (0 : UInt8)) y1.1) 23).toNat : Int), .int .u8 (((cpArr 32 (fun _ => (0 : UInt8)) y1.1) 24).toNat : Int), .int .u8 (((cpArr 32 (fun _ => (0 : UInt8)) y1.1) 25).toNat : Int), .int .u8 (((cpArr 32 (fun _ => (0 : UInt8)) y1.1) 26).toNat : Int), .int .u8 (((cpArr 32 (fun _ => (0 : UInt8)) y1.1) 27).toNat : Int), .int .u8 (((cpArr 32 (fun _ => (0 : UInt8)) y1.1) 28).toNat : Int), .int .u8 (((cpArr 32 (fun _ => (0 : UInt8)) y1.1) 29).toNat : Int), .int .u8 (((cpArr 32 (fun _ => (0 : UInt8)) y1.1) 30).toNat : Int), .int .u8 (((cpArr 32 (fun _ => (0 : UInt8)) y1.1) 31).toNat : Int)] 24, .box a0_reader_b #[.slice a0_reader_position_b_a y1.2.position.b.length a0_reader_position_b_c, .int .i64 y1.2.position.at_, .int .i64 y1.2.position.fault.code, .int .i64 y1.2.position.fault.at_] a0_reader_T, rowOf 5 1 c1r0_g c1r0_c y1.1, .box b2 #[.int .u8 0, .int .u8 0, .int .u8 0, .int .u8 0, .int .u8 0, .int .u8 0, .int .u8 0, .int .u8 0, .int .u8 0, .int .u8 0, .int .u8 0, .int .u8 0, .int .u8 0, .int .u8 0, .int .u8 0, .int .u8 0, .int .u8 0, .int .u8 0, .int .u8 0, .int .u8 0, .int .u8 0, .int .u8 0, .int .u8 0, .int .u8 0, .int .u8 0, .int .u8 0, .int .u8 0, .int .u8 0, .int .u8 0, .int .u8 0, .int .u8 0, .int .u8 0] 24, .box b1 #[.pointer (some ⟨a0_reader_b, 0, none⟩)] 61] := hS
 refine wpList_nil (then_n ?_)
 refine w_seq (w_region ?_)
 refine qo 9 hK (s_loadAll hK.at_ hS 0 rfl rfl rfl (by kernel_rfl) ?_)
 clear hK fr; intro fr hK
 refine qo0 hK (s_storeAll hK.at_ 3 hS rfl rfl rfl rfl (by kernel_rfl) (by kernel_rfl) (by kernel_rfl) ?_)
 clear hK fr hS; intro m6 l6 hS fr hK
 replace hS : St _ m m6 [.box b2 #[.int .u8 (((cpArr 32 (fun _ => (0 : UInt8)) y1.1) 0).toNat : Int), .int .u8 (((cpArr 32 (fun _ => (0 : UInt8)) y1.1) 1).toNat : Int), .int .u8 (((cpArr 32 (fun _ => (0 : UInt8)) y1.1) 2).toNat : Int), .int .u8 (((cpArr 32 (fun _ => (0 : UInt8)) y1.1) 3).toNat : Int), .int .u8 (((cpArr 32 (fun _ => (0 : UInt8)) y1.1) 4).toNat : Int), .int .u8 (((cpArr 32 (fun _ => (0 : UInt8)) y1.1) 5).toNat : Int), .int .u8 (((cpArr 32 (fun _ => (0 : UInt8)) y1.1) 6).toNat : Int), .int .u8 (((cpArr 32 (fun _ => (0 : UInt8)) y1.1) 7).toNat : Int), .int .u8 (((cpArr 32 (fun _ => (0 : UInt8)) y1.1) 8).toNat : Int), .int .u8 (((cpArr 32 (fun _ => (0 : UInt8)) y1.1) 9).toNat : Int), .int .u8 (((cpArr 32 (fun _ => (0 : UInt8)) y1.1) 10).toNat : Int), .int .u8 (((cpArr 32 (fun _ => (0 : UInt8)) y1.1) 11).toNat : Int), .int .u8 (((cpArr 32 (fun _ => (0 : UInt8)) y1.1) 12).toNat : Int), .int .u8 (((cpArr 32 (fun _ => (0 : UInt8)) y1.1) 13).toNat : Int), .int .u8 (((cpArr 32 (fun _ => (0 : UInt8)) y1.1) 14).toNat : Int), .int .u8 (((cpArr 32 (fun _ => (0 : UInt8)) y1.1) 15).toNat : Int), .int .u8 (((cpArr 32 (fun _ => (0 : UInt8)) y1.1) 16).toNat : Int), .int .u8 (((cpArr 32 (fun _ => (0 : UInt8)) y1.1) 17).toNat : Int), .int .u8 (((cpArr 32 (fun _ => (0 : UInt8)) y1.1) 18).toNat : Int), .int .u8 (((cpArr 32 (fun _ => (0 : UInt8)) y1.1) 19).toNat : Int), .int .u8 (((cpArr 32 (fun _ => (0 : UInt8)) y1.1) 20).toNat : Int), .int .u8 (((cpArr 32 (fun _ => (0 : UInt8)) y1.1) 21).toNat : Int), .int .u8 (((cpArr 32 (fun _ => (0 : UInt8)) y1.1) 22).toNat : Int), .int .u8 (((cpArr 32 (fun _ => (0 : UInt8)) y1.1) 23).toNat : Int), .int .u8 (((cpArr 32 (fun _ => (0 : UInt8)) y1.1) 24).toNat : Int), .int .u8 (((cpArr 32 (fun _ => (0 : UInt8)) y1.1) 25).toNat : Int), .int .u8 (((cpArr 32 (fun _ => (0 : UInt8)) y1.1) 26).toNat : Int), .int .u8 (((cpArr 32 (fun _ => (0 : UInt8)) y1.1) 27).toNat : Int), .int .u8 (((cpArr 32 (fun _ => (0 : UInt8)) y1.1) 28).toNat : Int), .int .u8 (((cpArr 32 (fun _ => (0 : UInt8)) y1.1) 29).toNat : Int), .int .u8 (((cpArr 32 (fun _ => (0 : UInt8)) y1.1) 30).toNat : Int), .int .u8 (((cpArr 32 (fun _ => (0 : UInt8)) y1.1) 31).toNat : Int)] 24, .box b3 #[.int .u8 (((cpArr 32 (fun _ => (0 : UInt8)) y1.1) 0).toNat : Int), .int .u8 (((cpArr 32 (fun _ => (0 : UInt8)) y1.1) 1).toNat : Int), .int .u8 (((cpArr 32 (fun _ => (0 : UInt8)) y1.1) 2).toNat : Int), .int .u8 (((cpArr 32 (fun _ => (0 : UInt8)) y1.1) 3).toNat : Int), .int .u8 (((cpArr 32 (fun _ => (0 : UInt8)) y1.1) 4).toNat : Int), .int .u8 (((cpArr 32 (fun _ => (0 : UInt8)) y1.1) 5).toNat : Int), .int .u8 (((cpArr 32 (fun _ => (0 : UInt8)) y1.1) 6).toNat : Int), .int .u8 (((cpArr 32 (fun _ => (0 : UInt8)) y1.1) 7).toNat : Int), .int .u8 (((cpArr 32 (fun _ => (0 : UInt8)) y1.1) 8).toNat : Int), .int .u8 (((cpArr 32 (fun _ => (0 : UInt8)) y1.1) 9).toNat : Int), .int .u8 (((cpArr 32 (fun _ => (0 : UInt8)) y1.1) 10).toNat : Int), .int .u8 (((cpArr 32 (fun _ => (0 : UInt8)) y1.1) 11).toNat : Int), .int .u8 (((cpArr 32 (fun _ => (0 : UInt8)) y1.1) 12).toNat : Int), .int .u8 (((cpArr 32 (fun _ => (0 : UInt8)) y1.1) 13).toNat : Int), .int .u8 (((cpArr 32 (fun _ => (0 : UInt8)) y1.1) 14).toNat : Int), .int .u8 (((cpArr 32 (fun _ => (0 : UInt8)) y1.1) 15).toNat : Int), .int .u8 (((cpArr 32 (fun _ => (0 : UInt8)) y1.1) 16).toNat : Int), .int .u8 (((cpArr 32 (fun _ => (0 : UInt8)) y1.1) 17).toNat : Int), .int .u8 (((cpArr 32 (fun _ => (0 : UInt8)) y1.1) 18).toNat : Int), .int .u8 (((cpArr 32 (fun _ => (0 : UInt8)) y1.1) 19).toNat : Int), .int .u8 (((cpArr 32 (fun _ => (0 : UInt8)) y1.1) 20).toNat : Int), .int .u8 (((cpArr 32 (fun _ => (0 : UInt8)) y1.1) 21).toNat : Int), .int .u8 (((cpArr 32 (fun _ => (0 : UInt8)) y1.1) 22).toNat : Int), .int .u8 (((cpArr 32 (fun _ => (0 : UInt8)) y1.1) 23).toNat : Int), .int .u8 (((cpArr 32 (fun _ => (0 : UInt8)) y1.1) 24).toNat : Int), .int .u8 (((cpArr 32 (fun _ => (0 : UInt8)) y1.1) 25).toNat : Int), .int .u8 (((cpArr 32 (fun _ => (0 : UInt8)) y1.1) 26).toNat : Int), .int .u8 (((cpArr 32 (fun _ => (0 : UInt8)) y1.1) 27).toNat : Int), .int .u8 (((cpArr 32 (fun _ => (0 : UInt8)) y1.1) 28).toNat : Int), .int .u8 (((cpArr 32 (fun _ => (0 : UInt8)) y1.1) 29).toNat : Int), .int .u8 (((cpArr 32 (fun _ => (0 : UInt8)) y1.1) 30).toNat : Int), .int .u8 (((cpArr 32 (fun _ => (0 : UInt8)) y1.1) 31).toNat : Int)] 24, .box a0_reader_b #[.slice a0_reader_position_b_a y1.2.position.b.length a0_reader_position_b_c, .int .i64 y1.2.position.at_, .int .i64 y1.2.position.fault.code, .int .i64 y1.2.position.fault.at_] a0_reader_T, rowOf 5 1 c1r0_g c1r0_c y1.1, .box b1 #[.pointer (some ⟨a0_reader_b, 0, none⟩)] 61] := hS
 refine wpList_nil (then_n ?_)
 refine wp_ret ?_
 replace a0_reader_position_b_f := Els.mono rep_U8 a0_reader_position_b_f (l4.trans (l5.trans l6))
 have f1 : Els isU8 m6 1 a0_reader_position_b_a a0_reader_position_b_c y1.2.position.b := Els.cast eq0_0.symm a0_reader_position_b_f
 replace h := Option.some.inj h; subst h
 replace hS := hS.front 2 rfl
 replace hS : St _ m m6 [.box a0_reader_b #[.slice a0_reader_position_b_a y1.2.position.b.length a0_reader_position_b_c, .int .i64 y1.2.position.at_, .int .i64 y1.2.position.fault.code, .int .i64 y1.2.position.fault.at_] a0_reader_T, .box b2 #[.int .u8 (((cpArr 32 (fun _ => (0 : UInt8)) y1.1) 0).toNat : Int), .int .u8 (((cpArr 32 (fun _ => (0 : UInt8)) y1.1) 1).toNat : Int), .int .u8 (((cpArr 32 (fun _ => (0 : UInt8)) y1.1) 2).toNat : Int), .int .u8 (((cpArr 32 (fun _ => (0 : UInt8)) y1.1) 3).toNat : Int), .int .u8 (((cpArr 32 (fun _ => (0 : UInt8)) y1.1) 4).toNat : Int), .int .u8 (((cpArr 32 (fun _ => (0 : UInt8)) y1.1) 5).toNat : Int), .int .u8 (((cpArr 32 (fun _ => (0 : UInt8)) y1.1) 6).toNat : Int), .int .u8 (((cpArr 32 (fun _ => (0 : UInt8)) y1.1) 7).toNat : Int), .int .u8 (((cpArr 32 (fun _ => (0 : UInt8)) y1.1) 8).toNat : Int), .int .u8 (((cpArr 32 (fun _ => (0 : UInt8)) y1.1) 9).toNat : Int), .int .u8 (((cpArr 32 (fun _ => (0 : UInt8)) y1.1) 10).toNat : Int), .int .u8 (((cpArr 32 (fun _ => (0 : UInt8)) y1.1) 11).toNat : Int), .int .u8 (((cpArr 32 (fun _ => (0 : UInt8)) y1.1) 12).toNat : Int), .int .u8 (((cpArr 32 (fun _ => (0 : UInt8)) y1.1) 13).toNat : Int), .int .u8 (((cpArr 32 (fun _ => (0 : UInt8)) y1.1) 14).toNat : Int), .int .u8 (((cpArr 32 (fun _ => (0 : UInt8)) y1.1) 15).toNat : Int), .int .u8 (((cpArr 32 (fun _ => (0 : UInt8)) y1.1) 16).toNat : Int), .int .u8 (((cpArr 32 (fun _ => (0 : UInt8)) y1.1) 17).toNat : Int), .int .u8 (((cpArr 32 (fun _ => (0 : UInt8)) y1.1) 18).toNat : Int), .int .u8 (((cpArr 32 (fun _ => (0 : UInt8)) y1.1) 19).toNat : Int), .int .u8 (((cpArr 32 (fun _ => (0 : UInt8)) y1.1) 20).toNat : Int), .int .u8 (((cpArr 32 (fun _ => (0 : UInt8)) y1.1) 21).toNat : Int), .int .u8 (((cpArr 32 (fun _ => (0 : UInt8)) y1.1) 22).toNat : Int), .int .u8 (((cpArr 32 (fun _ => (0 : UInt8)) y1.1) 23).toNat : Int), .int .u8 (((cpArr 32 (fun _ => (0 : UInt8)) y1.1) 24).toNat : Int), .int .u8 (((cpArr 32 (fun _ => (0 : UInt8)) y1.1) 25).toNat : Int), .int .u8 (((cpArr 32 (fun _ => (0 : UInt8)) y1.1) 26).toNat : Int), .int .u8 (((cpArr 32 (fun _ => (0 : UInt8)) y1.1) 27).toNat : Int), .int .u8 (((cpArr 32 (fun _ => (0 : UInt8)) y1.1) 28).toNat : Int), .int .u8 (((cpArr 32 (fun _ => (0 : UInt8)) y1.1) 29).toNat : Int), .int .u8 (((cpArr 32 (fun _ => (0 : UInt8)) y1.1) 30).toNat : Int), .int .u8 (((cpArr 32 (fun _ => (0 : UInt8)) y1.1) 31).toNat : Int)] 24, .box b3 #[.int .u8 (((cpArr 32 (fun _ => (0 : UInt8)) y1.1) 0).toNat : Int), .int .u8 (((cpArr 32 (fun _ => (0 : UInt8)) y1.1) 1).toNat : Int), .int .u8 (((cpArr 32 (fun _ => (0 : UInt8)) y1.1) 2).toNat : Int), .int .u8 (((cpArr 32 (fun _ => (0 : UInt8)) y1.1) 3).toNat : Int), .int .u8 (((cpArr 32 (fun _ => (0 : UInt8)) y1.1) 4).toNat : Int), .int .u8 (((cpArr 32 (fun _ => (0 : UInt8)) y1.1) 5).toNat : Int), .int .u8 (((cpArr 32 (fun _ => (0 : UInt8)) y1.1) 6).toNat : Int), .int .u8 (((cpArr 32 (fun _ => (0 : UInt8)) y1.1) 7).toNat : Int), .int .u8 (((cpArr 32 (fun _ => (0 : UInt8)) y1.1) 8).toNat : Int), .int .u8 (((cpArr 32 (fun _ => (0 : UInt8)) y1.1) 9).toNat : Int), .int .u8 (((cpArr 32 (fun _ => (0 : UInt8)) y1.1) 10).toNat : Int), .int .u8 (((cpArr 32 (fun _ => (0 : UInt8)) y1.1) 11).toNat : Int), .int .u8 (((cpArr 32 (fun _ => (0 : UInt8)) y1.1) 12).toNat : Int), .int .u8 (((cpArr 32 (fun _ => (0 : UInt8)) y1.1) 13).toNat : Int), .int .u8 (((cpArr 32 (fun _ => (0 : UInt8)) y1.1) 14).toNat : Int), .int .u8 (((cpArr 32 (fun _ => (0 : UInt8)) y1.1) 15).toNat : Int), .int .u8 (((cpArr 32 (fun _ => (0 : UInt8)) y1.1) 16).toNat : Int), .int .u8 (((cpArr 32 (fun _ => (0 : UInt8)) y1.1) 17).toNat : Int), .int .u8 (((cpArr 32 (fun _ => (0 : UInt8)) y1.1) 18).toNat : Int), .int .u8 (((cpArr 32 (fun _ => (0 : UInt8)) y1.1) 19).toNat : Int), .int .u8 (((cpArr 32 (fun _ => (0 : UInt8)) y1.1) 20).toNat : Int), .int .u8 (((cpArr 32 (fun _ => (0 : UInt8)) y1.1) 21).toNat : Int), .int .u8 (((cpArr 32 (fun _ => (0 : UInt8)) y1.1) 22).toNat : Int), .int .u8 (((cpArr 32 (fun _ => (0 : UInt8)) y1.1) 23).toNat : Int), .int .u8 (((cpArr 32 (fun _ => (0 : UInt8)) y1.1) 24).toNat : Int), .int .u8 (((cpArr 32 (fun _ => (0 : UInt8)) y1.1) 25).toNat : Int), .int .u8 (((cpArr 32 (fun _ => (0 : UInt8)) y1.1) 26).toNat : Int), .int .u8 (((cpArr 32 (fun _ => (0 : UInt8)) y1.1) 27).toNat : Int), .int .u8 (((cpArr 32 (fun _ => (0 : UInt8)) y1.1) 28).toNat : Int), .int .u8 (((cpArr 32 (fun _ => (0 : UInt8)) y1.1) 29).toNat : Int), .int .u8 (((cpArr 32 (fun _ => (0 : UInt8)) y1.1) 30).toNat : Int), .int .u8 (((cpArr 32 (fun _ => (0 : UInt8)) y1.1) 31).toNat : Int)] 24, rowOf 5 1 c1r0_g c1r0_c y1.1, .box b1 #[.pointer (some ⟨a0_reader_b, 0, none⟩)] 61] := hS
 refine ret_of [.cell 2 24] [.agg #[.int .u8 (((cpArr 32 (fun _ => (0 : UInt8)) y1.1) 0).toNat : Int), .int .u8 (((cpArr 32 (fun _ => (0 : UInt8)) y1.1) 1).toNat : Int), .int .u8 (((cpArr 32 (fun _ => (0 : UInt8)) y1.1) 2).toNat : Int), .int .u8 (((cpArr 32 (fun _ => (0 : UInt8)) y1.1) 3).toNat : Int), .int .u8 (((cpArr 32 (fun _ => (0 : UInt8)) y1.1) 4).toNat : Int), .int .u8 (((cpArr 32 (fun _ => (0 : UInt8)) y1.1) 5).toNat : Int), .int .u8 (((cpArr 32 (fun _ => (0 : UInt8)) y1.1) 6).toNat : Int), .int .u8 (((cpArr 32 (fun _ => (0 : UInt8)) y1.1) 7).toNat : Int), .int .u8 (((cpArr 32 (fun _ => (0 : UInt8)) y1.1) 8).toNat : Int), .int .u8 (((cpArr 32 (fun _ => (0 : UInt8)) y1.1) 9).toNat : Int), .int .u8 (((cpArr 32 (fun _ => (0 : UInt8)) y1.1) 10).toNat : Int), .int .u8 (((cpArr 32 (fun _ => (0 : UInt8)) y1.1) 11).toNat : Int), .int .u8 (((cpArr 32 (fun _ => (0 : UInt8)) y1.1) 12).toNat : Int), .int .u8 (((cpArr 32 (fun _ => (0 : UInt8)) y1.1) 13).toNat : Int), .int .u8 (((cpArr 32 (fun _ => (0 : UInt8)) y1.1) 14).toNat : Int), .int .u8 (((cpArr 32 (fun _ => (0 : UInt8)) y1.1) 15).toNat : Int), .int .u8 (((cpArr 32 (fun _ => (0 : UInt8)) y1.1) 16).toNat : Int), .int .u8 (((cpArr 32 (fun _ => (0 : UInt8)) y1.1) 17).toNat : Int), .int .u8 (((cpArr 32 (fun _ => (0 : UInt8)) y1.1) 18).toNat : Int), .int .u8 (((cpArr 32 (fun _ => (0 : UInt8)) y1.1) 19).toNat : Int), .int .u8 (((cpArr 32 (fun _ => (0 : UInt8)) y1.1) 20).toNat : Int), .int .u8 (((cpArr 32 (fun _ => (0 : UInt8)) y1.1) 21).toNat : Int), .int .u8 (((cpArr 32 (fun _ => (0 : UInt8)) y1.1) 22).toNat : Int), .int .u8 (((cpArr 32 (fun _ => (0 : UInt8)) y1.1) 23).toNat : Int), .int .u8 (((cpArr 32 (fun _ => (0 : UInt8)) y1.1) 24).toNat : Int), .int .u8 (((cpArr 32 (fun _ => (0 : UInt8)) y1.1) 25).toNat : Int), .int .u8 (((cpArr 32 (fun _ => (0 : UInt8)) y1.1) 26).toNat : Int), .int .u8 (((cpArr 32 (fun _ => (0 : UInt8)) y1.1) 27).toNat : Int), .int .u8 (((cpArr 32 (fun _ => (0 : UInt8)) y1.1) 28).toNat : Int), .int .u8 (((cpArr 32 (fun _ => (0 : UInt8)) y1.1) 29).toNat : Int), .int .u8 (((cpArr 32 (fun _ => (0 : UInt8)) y1.1) 30).toNat : Int), .int .u8 (((cpArr 32 (fun _ => (0 : UInt8)) y1.1) 31).toNat : Int)]] rfl hK (ResL.box hS 1 rfl rfl (by kernel_rfl) .nil) (St.keep (L := [.box a0_reader_b #[.slice a0_reader_position_b_a y1.2.position.b.length a0_reader_position_b_c, .int .i64 y1.2.position.at_, .int .i64 y1.2.position.fault.code, .int .i64 y1.2.position.fault.at_] a0_reader_T]) (R := [.box b2 #[.int .u8 (((cpArr 32 (fun _ => (0 : UInt8)) y1.1) 0).toNat : Int), .int .u8 (((cpArr 32 (fun _ => (0 : UInt8)) y1.1) 1).toNat : Int), .int .u8 (((cpArr 32 (fun _ => (0 : UInt8)) y1.1) 2).toNat : Int), .int .u8 (((cpArr 32 (fun _ => (0 : UInt8)) y1.1) 3).toNat : Int), .int .u8 (((cpArr 32 (fun _ => (0 : UInt8)) y1.1) 4).toNat : Int), .int .u8 (((cpArr 32 (fun _ => (0 : UInt8)) y1.1) 5).toNat : Int), .int .u8 (((cpArr 32 (fun _ => (0 : UInt8)) y1.1) 6).toNat : Int), .int .u8 (((cpArr 32 (fun _ => (0 : UInt8)) y1.1) 7).toNat : Int), .int .u8 (((cpArr 32 (fun _ => (0 : UInt8)) y1.1) 8).toNat : Int), .int .u8 (((cpArr 32 (fun _ => (0 : UInt8)) y1.1) 9).toNat : Int), .int .u8 (((cpArr 32 (fun _ => (0 : UInt8)) y1.1) 10).toNat : Int), .int .u8 (((cpArr 32 (fun _ => (0 : UInt8)) y1.1) 11).toNat : Int), .int .u8 (((cpArr 32 (fun _ => (0 : UInt8)) y1.1) 12).toNat : Int), .int .u8 (((cpArr 32 (fun _ => (0 : UInt8)) y1.1) 13).toNat : Int), .int .u8 (((cpArr 32 (fun _ => (0 : UInt8)) y1.1) 14).toNat : Int), .int .u8 (((cpArr 32 (fun _ => (0 : UInt8)) y1.1) 15).toNat : Int), .int .u8 (((cpArr 32 (fun _ => (0 : UInt8)) y1.1) 16).toNat : Int), .int .u8 (((cpArr 32 (fun _ => (0 : UInt8)) y1.1) 17).toNat : Int), .int .u8 (((cpArr 32 (fun _ => (0 : UInt8)) y1.1) 18).toNat : Int), .int .u8 (((cpArr 32 (fun _ => (0 : UInt8)) y1.1) 19).toNat : Int), .int .u8 (((cpArr 32 (fun _ => (0 : UInt8)) y1.1) 20).toNat : Int), .int .u8 (((cpArr 32 (fun _ => (0 : UInt8)) y1.1) 21).toNat : Int), .int .u8 (((cpArr 32 (fun _ => (0 : UInt8)) y1.1) 22).toNat : Int), .int .u8 (((cpArr 32 (fun _ => (0 : UInt8)) y1.1) 23).toNat : Int), .int .u8 (((cpArr 32 (fun _ => (0 : UInt8)) y1.1) 24).toNat : Int), .int .u8 (((cpArr 32 (fun _ => (0 : UInt8)) y1.1) 25).toNat : Int), .int .u8 (((cpArr 32 (fun _ => (0 : UInt8)) y1.1) 26).toNat : Int), .int .u8 (((cpArr 32 (fun _ => (0 : UInt8)) y1.1) 27).toNat : Int), .int .u8 (((cpArr 32 (fun _ => (0 : UInt8)) y1.1) 28).toNat : Int), .int .u8 (((cpArr 32 (fun _ => (0 : UInt8)) y1.1) 29).toNat : Int), .int .u8 (((cpArr 32 (fun _ => (0 : UInt8)) y1.1) 30).toNat : Int), .int .u8 (((cpArr 32 (fun _ => (0 : UInt8)) y1.1) 31).toNat : Int)] 24, .box b3 #[.int .u8 (((cpArr 32 (fun _ => (0 : UInt8)) y1.1) 0).toNat : Int), .int .u8 (((cpArr 32 (fun _ => (0 : UInt8)) y1.1) 1).toNat : Int), .int .u8 (((cpArr 32 (fun _ => (0 : UInt8)) y1.1) 2).toNat : Int), .int .u8 (((cpArr 32 (fun _ => (0 : UInt8)) y1.1) 3).toNat : Int), .int .u8 (((cpArr 32 (fun _ => (0 : UInt8)) y1.1) 4).toNat : Int), .int .u8 (((cpArr 32 (fun _ => (0 : UInt8)) y1.1) 5).toNat : Int), .int .u8 (((cpArr 32 (fun _ => (0 : UInt8)) y1.1) 6).toNat : Int), .int .u8 (((cpArr 32 (fun _ => (0 : UInt8)) y1.1) 7).toNat : Int), .int .u8 (((cpArr 32 (fun _ => (0 : UInt8)) y1.1) 8).toNat : Int), .int .u8 (((cpArr 32 (fun _ => (0 : UInt8)) y1.1) 9).toNat : Int), .int .u8 (((cpArr 32 (fun _ => (0 : UInt8)) y1.1) 10).toNat : Int), .int .u8 (((cpArr 32 (fun _ => (0 : UInt8)) y1.1) 11).toNat : Int), .int .u8 (((cpArr 32 (fun _ => (0 : UInt8)) y1.1) 12).toNat : Int), .int .u8 (((cpArr 32 (fun _ => (0 : UInt8)) y1.1) 13).toNat : Int), .int .u8 (((cpArr 32 (fun _ => (0 : UInt8)) y1.1) 14).toNat : Int), .int .u8 (((cpArr 32 (fun _ => (0 : UInt8)) y1.1) 15).toNat : Int), .int .u8 (((cpArr 32 (fun _ => (0 : UInt8)) y1.1) 16).toNat : Int), .int .u8 (((cpArr 32 (fun _ => (0 : UInt8)) y1.1) 17).toNat : Int), .int .u8 (((cpArr 32 (fun _ => (0 : UInt8)) y1.1) 18).toNat : Int), .int .u8 (((cpArr 32 (fun _ => (0 : UInt8)) y1.1) 19).toNat : Int), .int .u8 (((cpArr 32 (fun _ => (0 : UInt8)) y1.1) 20).toNat : Int), .int .u8 (((cpArr 32 (fun _ => (0 : UInt8)) y1.1) 21).toNat : Int), .int .u8 (((cpArr 32 (fun _ => (0 : UInt8)) y1.1) 22).toNat : Int), .int .u8 (((cpArr 32 (fun _ => (0 : UInt8)) y1.1) 23).toNat : Int), .int .u8 (((cpArr 32 (fun _ => (0 : UInt8)) y1.1) 24).toNat : Int), .int .u8 (((cpArr 32 (fun _ => (0 : UInt8)) y1.1) 25).toNat : Int), .int .u8 (((cpArr 32 (fun _ => (0 : UInt8)) y1.1) 26).toNat : Int), .int .u8 (((cpArr 32 (fun _ => (0 : UInt8)) y1.1) 27).toNat : Int), .int .u8 (((cpArr 32 (fun _ => (0 : UInt8)) y1.1) 28).toNat : Int), .int .u8 (((cpArr 32 (fun _ => (0 : UInt8)) y1.1) 29).toNat : Int), .int .u8 (((cpArr 32 (fun _ => (0 : UInt8)) y1.1) 30).toNat : Int), .int .u8 (((cpArr 32 (fun _ => (0 : UInt8)) y1.1) 31).toNat : Int)] 24, rowOf 5 1 c1r0_g c1r0_c y1.1, .box b1 #[.pointer (some ⟨a0_reader_b, 0, none⟩)] 61]) hS) ?_
 exact ⟨rfl, rfl, eq0_0⟩
set_option maxRecDepth 100000 in
set_option maxHeartbeats 1000000 in
theorem G.wire_Reader_Fault_spec {m : Mem} {a0 : G.wire_Reader} {a0_b : Nat} {a0_position_b_a : Option Addr} {a0_position_b_c : Nat} {a0_T : TypeId} (a0_position_b_f : Els isU8 m 1 a0_position_b_a a0_position_b_c a0.position.b) {r : G.Fault} (h : G.wire_Reader_Fault a0 = some r) (hO : Ow m [.box a0_b #[.slice a0_position_b_a a0.position.b.length a0_position_b_c, .int .i64 a0.position.at_, .int .i64 a0.position.fault.code, .int .i64 a0.position.fault.at_] a0_T]) :
  Spec Try.prog 47 #[.pointer (some ⟨a0_b, 0, none⟩)] m [.box a0_b #[.slice a0_position_b_a a0.position.b.length a0_position_b_c, .int .i64 a0.position.at_, .int .i64 a0.position.fault.code, .int .i64 a0.position.fault.at_] a0_T] fun v m' L => L = [.box a0_b #[.slice a0_position_b_a a0.position.b.length a0_position_b_c, .int .i64 a0.position.at_, .int .i64 a0.position.fault.code, .int .i64 a0.position.fault.at_] a0_T] ∧ v = .agg #[.int .i64 r.code, .int .i64 r.at_] := by
 unfold G.wire_Reader_Fault at h
 refine enter (args := [_]) 11 Try.func47 rfl rfl (by simp) fun fr hK => ?_
 have hS := St.refl (hO)
 replace hK : Kn 11 fr [(0, .pointer (some ⟨a0_b, 0, none⟩))] := hK
 refine w_seq (w_region ?_)
 refine qo 2 hK (s_alloc (.agg #[.int .i64 0, .int .i64 0]) hK.at_ hS rfl (by kernel_rfl) ?_)
 clear hK fr hS; intro m1 b1 b1z l1 hS fr hK
 replace hS : St _ m m1 [.box b1 #[.int .i64 0, .int .i64 0] 30, .box a0_b #[.slice a0_position_b_a a0.position.b.length a0_position_b_c, .int .i64 a0.position.at_, .int .i64 a0.position.fault.code, .int .i64 a0.position.fault.at_] a0_T] := hS
 refine wpList_nil (then_n ?_)
 refine w_seq ?_
 refine w_seq (w_region ?_)
 refine qp 3 (.pointer (some ⟨a0_b, 0, none⟩)) hK fun fr hK => ?_
 refine qp 4 (.bool false) hK fun fr hK => ?_
 refine wpList_nil (then_n ?_)
 refine w_cond_f hK rfl ?_
 refine wp_skip ?_
 refine then_n ?_
 refine w_seq (w_region ?_)
 refine qp 6 (.pointer (some ⟨a0_b, 0, none⟩)) hK fun fr hK => ?_
 refine qp 7 (.pointer (some ⟨a0_b, 0, none⟩)) hK fun fr hK => ?_
 refine qp 8 (.pointer (some ⟨a0_b, 0, none⟩)) hK fun fr hK => ?_
 refine qp 9 (.pointer (some ⟨a0_b, 2, none⟩)) hK fun fr hK => ?_
 refine qo 10 hK (s_loadN [.int .i64 a0.position.fault.code, .int .i64 a0.position.fault.at_] hK.at_ hS 1 rfl rfl rfl (by kernel_rfl) (by kernel_rfl) ?_)
 clear hK fr; intro fr hK
 refine qo0 hK (s_storeAll hK.at_ 0 hS rfl rfl rfl rfl (by kernel_rfl) (by kernel_rfl) (by kernel_rfl) ?_)
 clear hK fr hS; intro m2 l2 hS fr hK
 replace hS : St _ m m2 [.box b1 #[.int .i64 a0.position.fault.code, .int .i64 a0.position.fault.at_] 30, .box a0_b #[.slice a0_position_b_a a0.position.b.length a0_position_b_c, .int .i64 a0.position.at_, .int .i64 a0.position.fault.code, .int .i64 a0.position.fault.at_] a0_T] := hS
 refine wpList_nil (then_n ?_)
 refine wp_ret ?_
 replace h := Option.some.inj h; subst h
 replace hS := hS.front 1 rfl
 replace hS : St _ m m2 [.box a0_b #[.slice a0_position_b_a a0.position.b.length a0_position_b_c, .int .i64 a0.position.at_, .int .i64 a0.position.fault.code, .int .i64 a0.position.fault.at_] a0_T, .box b1 #[.int .i64 a0.position.fault.code, .int .i64 a0.position.fault.at_] 30] := hS
 refine ret_of [.cell 2 30] [.agg #[.int .i64 a0.position.fault.code, .int .i64 a0.position.fault.at_]] rfl hK (ResL.box hS 1 rfl rfl (by kernel_rfl) .nil) (St.keep (L := [.box a0_b #[.slice a0_position_b_a a0.position.b.length a0_position_b_c, .int .i64 a0.position.at_, .int .i64 a0.position.fault.code, .int .i64 a0.position.fault.at_] a0_T]) (R := [.box b1 #[.int .i64 a0.position.fault.code, .int .i64 a0.position.fault.at_] 30]) hS) ?_
 exact ⟨rfl, rfl⟩
set_option maxRecDepth 100000 in
set_option maxHeartbeats 1000000 in
theorem G.format_decoder_ok_spec {m : Mem} {a0 : G.format_decoder} {a0_reader_b : Nat} {a0_reader_position_b_a : Option Addr} {a0_reader_position_b_c : Nat} {a0_reader_T : TypeId} (a0_reader_position_b_f : Els isU8 m 1 a0_reader_position_b_a a0_reader_position_b_c a0.reader.position.b) {r : Bool} (h : G.format_decoder_ok a0 = some r) (hO : Ow m [.box a0_reader_b #[.slice a0_reader_position_b_a a0.reader.position.b.length a0_reader_position_b_c, .int .i64 a0.reader.position.at_, .int .i64 a0.reader.position.fault.code, .int .i64 a0.reader.position.fault.at_] a0_reader_T]) :
  Spec Try.prog 43 #[.agg #[.pointer (some ⟨a0_reader_b, 0, none⟩)]] m [.box a0_reader_b #[.slice a0_reader_position_b_a a0.reader.position.b.length a0_reader_position_b_c, .int .i64 a0.reader.position.at_, .int .i64 a0.reader.position.fault.code, .int .i64 a0.reader.position.fault.at_] a0_reader_T] fun v m' L => L = [.box a0_reader_b #[.slice a0_reader_position_b_a a0.reader.position.b.length a0_reader_position_b_c, .int .i64 a0.reader.position.at_, .int .i64 a0.reader.position.fault.code, .int .i64 a0.reader.position.fault.at_] a0_reader_T] ∧ v = .bool r := by
 unfold G.format_decoder_ok at h
 refine enter (args := [_]) 8 Try.func43 rfl rfl (by simp) fun fr hK => ?_
 have hS := St.refl (hO)
 replace hK : Kn 8 fr [(0, .agg #[.pointer (some ⟨a0_reader_b, 0, none⟩)])] := hK
 refine w_seq (w_region ?_)
 refine qo 1 hK (s_box hK.at_ hS rfl rfl ?_)
 clear hK fr hS; intro m1 b1 b1z l1 hS fr hK
 replace hS : St _ m m1 [.box b1 #[.pointer (some ⟨a0_reader_b, 0, none⟩)] 61, .box a0_reader_b #[.slice a0_reader_position_b_a a0.reader.position.b.length a0_reader_position_b_c, .int .i64 a0.reader.position.at_, .int .i64 a0.reader.position.fault.code, .int .i64 a0.reader.position.fault.at_] a0_reader_T] := hS
 refine qp 2 (.bool false) hK fun fr hK => ?_
 refine wpList_nil (then_n ?_)
 refine w_seq (w_region ?_)
 refine qp 3 (.pointer (some ⟨b1, 0, none⟩)) hK fun fr hK => ?_
 refine qo 4 hK (s_load hK.at_ hS 0 rfl rfl rfl rfl (by kernel_rfl) ?_)
 clear hK fr; intro fr hK
 replace a0_reader_position_b_f := Els.mono rep_U8 a0_reader_position_b_f l1
 obtain ⟨y1, hy1, h⟩ := bind_some h
 replace hS := hS.front 1 rfl
 replace hS : St _ m m1 [.box a0_reader_b #[.slice a0_reader_position_b_a a0.reader.position.b.length a0_reader_position_b_c, .int .i64 a0.reader.position.at_, .int .i64 a0.reader.position.fault.code, .int .i64 a0.reader.position.fault.at_] a0_reader_T, .box b1 #[.pointer (some ⟨a0_reader_b, 0, none⟩)] 61] := hS
 refine qo 5 hK (s_callM (R := [.box a0_reader_b #[.slice a0_reader_position_b_a a0.reader.position.b.length a0_reader_position_b_c, .int .i64 a0.reader.position.at_, .int .i64 a0.reader.position.fault.code, .int .i64 a0.reader.position.fault.at_] a0_reader_T]) (L := [.box b1 #[.pointer (some ⟨a0_reader_b, 0, none⟩)] 61]) hK.at_ hS ent47_1 rfl rfl rfl rfl (G.wire_Reader_Fault_spec a0_reader_position_b_f hy1 (Ow.left (L := [.box a0_reader_b #[.slice a0_reader_position_b_a a0.reader.position.b.length a0_reader_position_b_c, .int .i64 a0.reader.position.at_, .int .i64 a0.reader.position.fault.code, .int .i64 a0.reader.position.fault.at_] a0_reader_T]) hS.ow)) (by kernel_rfl) ?_)
 clear hK fr hS; rintro _ m2 _ l2 hS ⟨rfl, rfl⟩ fr hK
 replace hS : St _ m m2 [.box a0_reader_b #[.slice a0_reader_position_b_a a0.reader.position.b.length a0_reader_position_b_c, .int .i64 a0.reader.position.at_, .int .i64 a0.reader.position.fault.code, .int .i64 a0.reader.position.fault.at_] a0_reader_T, .box b1 #[.pointer (some ⟨a0_reader_b, 0, none⟩)] 61] := hS
 refine qp 6 (.agg #[.int .i64 0, .int .i64 0]) hK fun fr hK => ?_
 refine qr 7 (.bool (decide (y1.code = 0 ∧ y1.at_ = 0))) hK (by exact run_binAgg rfl rfl rfl (by kernel_rfl) (eqT30_1 _ _ _ _ _)) ?_
 clear hK fr; intro fr hK
 refine qp 2 (.bool (decide (y1.code = 0 ∧ y1.at_ = 0))) hK fun fr hK => ?_
 refine wpList_nil (then_n ?_)
 refine wp_ret ?_
 replace h := Option.some.inj h; subst h
 replace hS : St _ m m2 [.box a0_reader_b #[.slice a0_reader_position_b_a a0.reader.position.b.length a0_reader_position_b_c, .int .i64 a0.reader.position.at_, .int .i64 a0.reader.position.fault.code, .int .i64 a0.reader.position.fault.at_] a0_reader_T, .box b1 #[.pointer (some ⟨a0_reader_b, 0, none⟩)] 61] := hS
 refine ret_of [.tmp 2] [.bool (decide (y1.code = 0 ∧ y1.at_ = 0))] rfl hK (.tmp rfl .nil) (St.keep (L := [.box a0_reader_b #[.slice a0_reader_position_b_a a0.reader.position.b.length a0_reader_position_b_c, .int .i64 a0.reader.position.at_, .int .i64 a0.reader.position.fault.code, .int .i64 a0.reader.position.fault.at_] a0_reader_T]) (R := [.box b1 #[.pointer (some ⟨a0_reader_b, 0, none⟩)] 61]) hS) ?_
 exact ⟨rfl, rfl⟩
set_option maxRecDepth 100000 in
set_option maxHeartbeats 1000000 in
theorem G.wire_Reader_At_spec {m : Mem} {a0 : G.wire_Reader} {a0_b : Nat} {a0_position_b_a : Option Addr} {a0_position_b_c : Nat} {a0_T : TypeId} (a0_position_b_f : Els isU8 m 1 a0_position_b_a a0_position_b_c a0.position.b) {r : Int} (h : G.wire_Reader_At a0 = some r) (hO : Ow m [.box a0_b #[.slice a0_position_b_a a0.position.b.length a0_position_b_c, .int .i64 a0.position.at_, .int .i64 a0.position.fault.code, .int .i64 a0.position.fault.at_] a0_T]) :
  Spec Try.prog 46 #[.pointer (some ⟨a0_b, 0, none⟩)] m [.box a0_b #[.slice a0_position_b_a a0.position.b.length a0_position_b_c, .int .i64 a0.position.at_, .int .i64 a0.position.fault.code, .int .i64 a0.position.fault.at_] a0_T] fun v m' L => L = [.box a0_b #[.slice a0_position_b_a a0.position.b.length a0_position_b_c, .int .i64 a0.position.at_, .int .i64 a0.position.fault.code, .int .i64 a0.position.fault.at_] a0_T] ∧ v = .int .i64 r := by
 unfold G.wire_Reader_At at h
 refine enter (args := [_]) 10 Try.func46 rfl rfl (by simp) fun fr hK => ?_
 have hS := St.refl (hO)
 replace hK : Kn 10 fr [(0, .pointer (some ⟨a0_b, 0, none⟩))] := hK
 refine w_seq (w_region ?_)
 refine qp 2 (.int .i64 0) hK fun fr hK => ?_
 refine wpList_nil (then_n ?_)
 refine w_seq ?_
 refine w_seq (w_region ?_)
 refine qp 3 (.pointer (some ⟨a0_b, 0, none⟩)) hK fun fr hK => ?_
 refine qp 4 (.bool false) hK fun fr hK => ?_
 refine wpList_nil (then_n ?_)
 refine w_cond_f hK rfl ?_
 refine wp_skip ?_
 refine then_n ?_
 refine w_seq (w_region ?_)
 refine qp 5 (.pointer (some ⟨a0_b, 0, none⟩)) hK fun fr hK => ?_
 refine qp 6 (.pointer (some ⟨a0_b, 0, none⟩)) hK fun fr hK => ?_
 refine qp 7 (.pointer (some ⟨a0_b, 0, none⟩)) hK fun fr hK => ?_
 refine qp 8 (.pointer (some ⟨a0_b, 1, none⟩)) hK fun fr hK => ?_
 refine qo 9 hK (s_load hK.at_ hS 0 rfl rfl rfl rfl (by kernel_rfl) ?_)
 clear hK fr; intro fr hK
 refine qp 2 (.int .i64 a0.position.at_) hK fun fr hK => ?_
 refine wpList_nil (then_n ?_)
 refine wp_ret ?_
 replace h := Option.some.inj h; subst h
 replace hS : St _ m m [.box a0_b #[.slice a0_position_b_a a0.position.b.length a0_position_b_c, .int .i64 a0.position.at_, .int .i64 a0.position.fault.code, .int .i64 a0.position.fault.at_] a0_T] := hS
 refine ret_of [.tmp 2] [.int .i64 a0.position.at_] rfl hK (.tmp rfl .nil) hS ?_
 exact ⟨rfl, rfl⟩
set_option maxRecDepth 100000 in
set_option maxHeartbeats 1000000 in
theorem G.format_decoder_copying_spec {m : Mem} {a0 : G.format_decoder} {a0_reader_b : Nat} {a0_reader_position_b_a : Option Addr} {a0_reader_position_b_c : Nat} {a0_reader_T : TypeId} (a0_reader_position_b_f : Els isU8 m 1 a0_reader_position_b_a a0_reader_position_b_c a0.reader.position.b) {r : G.Command × G.wire_Reader} (h : G.format_decoder_copying a0 = some r) (hO : Ow m [.box a0_reader_b #[.slice a0_reader_position_b_a a0.reader.position.b.length a0_reader_position_b_c, .int .i64 a0.reader.position.at_, .int .i64 a0.reader.position.fault.code, .int .i64 a0.reader.position.fault.at_] a0_reader_T]) :
  Spec Try.prog 81 #[.agg #[.pointer (some ⟨a0_reader_b, 0, none⟩)]] m [.box a0_reader_b #[.slice a0_reader_position_b_a a0.reader.position.b.length a0_reader_position_b_c, .int .i64 a0.reader.position.at_, .int .i64 a0.reader.position.fault.code, .int .i64 a0.reader.position.fault.at_] a0_reader_T] fun v m' L => ∃ (r0_data_a : Option Addr) (r0_data_c : Nat), L = [.box a0_reader_b #[.slice a0_reader_position_b_a r.2.position.b.length a0_reader_position_b_c, .int .i64 r.2.position.at_, .int .i64 r.2.position.fault.code, .int .i64 r.2.position.fault.at_] a0_reader_T] ∧ v = .agg #[.int .i64 r.1.kind, .int .i64 r.1.to, .int .i64 r.1.from_, .int .i64 r.1.len, .slice r0_data_a r.1.data.length r0_data_c] ∧ Els isU8 m' 1 r0_data_a r0_data_c r.1.data ∧ r.2.position.b = a0.reader.position.b := by
 unfold G.format_decoder_copying at h
 refine enter (args := [_]) 13 Try.func81 rfl rfl (by simp) fun fr hK => ?_
 have hS := St.refl (hO)
 replace hK : Kn 13 fr [(0, .agg #[.pointer (some ⟨a0_reader_b, 0, none⟩)])] := hK
 refine w_seq (w_region ?_)
 refine qo 1 hK (s_box hK.at_ hS rfl rfl ?_)
 clear hK fr hS; intro m1 b1 b1z l1 hS fr hK
 refine qo 2 hK (s_alloc (.agg #[.int .i64 0, .int .i64 0, .int .i64 0, .int .i64 0, .slice none 0 0]) hK.at_ hS rfl (by kernel_rfl) ?_)
 clear hK fr hS; intro m2 b2 b2z l2 hS fr hK
 replace hS : St _ m m2 [.box b2 #[.int .i64 0, .int .i64 0, .int .i64 0, .int .i64 0, .slice none 0 0] 50, .box b1 #[.pointer (some ⟨a0_reader_b, 0, none⟩)] 61, .box a0_reader_b #[.slice a0_reader_position_b_a a0.reader.position.b.length a0_reader_position_b_c, .int .i64 a0.reader.position.at_, .int .i64 a0.reader.position.fault.code, .int .i64 a0.reader.position.fault.at_] a0_reader_T] := hS
 refine wpList_nil (then_n ?_)
 refine w_seq ?_
 replace a0_reader_position_b_f := Els.mono rep_U8 a0_reader_position_b_f (l1.trans l2)
 obtain ⟨y1, hy1, h⟩ := bind_some h
 replace hS := hS.front 2 rfl
 replace hS : St _ m m2 [.box a0_reader_b #[.slice a0_reader_position_b_a a0.reader.position.b.length a0_reader_position_b_c, .int .i64 a0.reader.position.at_, .int .i64 a0.reader.position.fault.code, .int .i64 a0.reader.position.fault.at_] a0_reader_T, .box b2 #[.int .i64 0, .int .i64 0, .int .i64 0, .int .i64 0, .slice none 0 0] 50, .box b1 #[.pointer (some ⟨a0_reader_b, 0, none⟩)] 61] := hS
 obtain ⟨y2, hy2, h⟩ := bind_some h
 have hlt0 : ∀ bq ∈ blocksOf [.box a0_reader_b #[.slice a0_reader_position_b_a a0.reader.position.b.length a0_reader_position_b_c, .int .i64 a0.reader.position.at_, .int .i64 a0.reader.position.fault.code, .int .i64 a0.reader.position.fault.at_] a0_reader_T, .box b2 #[.int .i64 0, .int .i64 0, .int .i64 0, .int .i64 0, .slice none 0 0] 50, .box b1 #[.pointer (some ⟨a0_reader_b, 0, none⟩)] 61], bq < m2.w.heap.size := fun bq hbq => hS.ow.lt hbq
 refine D.wp_draw (Gr := D.GO m2 none) (S := D.SO none (blocksOf [.box a0_reader_b #[.slice a0_reader_position_b_a a0.reader.position.b.length a0_reader_position_b_c, .int .i64 a0.reader.position.at_, .int .i64 a0.reader.position.fault.code, .int .i64 a0.reader.position.fault.at_] a0_reader_T]) m m2 (fun kq => match kq with | 0 => [.box a0_reader_b #[.slice a0_reader_position_b_a a0.reader.position.b.length a0_reader_position_b_c, .int .i64 a0.reader.position.at_, .int .i64 a0.reader.position.fault.code, .int .i64 a0.reader.position.fault.at_] a0_reader_T, .box b2 #[.int .i64 0, .int .i64 0, .int .i64 0, .int .i64 0, .slice none 0 0] 50, .box b1 #[.pointer (some ⟨a0_reader_b, 0, none⟩)] 61] | 1 => [.box a0_reader_b #[.slice a0_reader_position_b_a y1.2.position.b.length a0_reader_position_b_c, .int .i64 y1.2.position.at_, .int .i64 y1.2.position.fault.code, .int .i64 y1.2.position.fault.at_] a0_reader_T, .box b2 #[.int .i64 0, .int .i64 0, .int .i64 0, .int .i64 0, .slice none 0 0] 50, .box b1 #[.pointer (some ⟨a0_reader_b, 0, none⟩)] 61] | _ => [.box a0_reader_b #[.slice a0_reader_position_b_a y2.2.position.b.length a0_reader_position_b_c, .int .i64 y2.2.position.at_, .int .i64 y2.2.position.fault.code, .int .i64 y2.2.position.fault.at_] a0_reader_T, .box b2 #[.int .i64 0, .int .i64 0, .int .i64 0, .int .i64 0, .slice none 0 0] 50, .box b1 #[.pointer (some ⟨a0_reader_b, 0, none⟩)] 61]) (fun kq => match kq with | 0 => True | 1 => y1.2.position.b = a0.reader.position.b ∧ True | _ => y1.2.position.b = a0.reader.position.b ∧ y2.2.position.b = y1.2.position.b ∧ True)) (N := 2) 8 [2, 5] [([(1, none)], 0, 0, false), ([(3, some 0)], 0, 0, false), ([(4, some 0)], 0, 0, true), ([(1, none)], 0, 1, false), ([(6, some 0)], 0, 1, false), ([(7, some 0)], 1, 1, true), ([(1, none)], 0, 2, false), ([(9, some 0)], 0, 2, false)] hK.size (by kernel_rfl) (by kernel_rfl) (by kernel_rfl) rfl (D.startO hS trivial) ?_
 refine D.on_pure (D.GO_refl _ _) [(1, .pointer (some ⟨b1, 0, none⟩))] (.pointer (some ⟨b1, 0, none⟩)) (fun ac ww hk => (.cons (hk.1.trans (hK.at_ 1 _ rfl)) (.nil _))) ?_
 refine D.on_op (fun uu _ => uu = .pointer (some ⟨a0_reader_b, 0, none⟩)) (fun _ _ _ h _ => h) (by
  intro ac ww kk hlo hhi hb hk
  obtain rfl : kk = 0 := by omega
  have h0 := hS; replace hS := hb.2.1
  have k3 : ac.eval (.tmp 3) = .pointer (some ⟨b1, 0, none⟩) := hk.1
  have hKe : Ke ac [(3, .pointer (some ⟨b1, 0, none⟩))] := (.cons k3 (.nil _))
  exact ⟨D.wanted0 rfl, D.valO (m := m2) hb (fun Post hp => s_load hKe hS 2 rfl rfl rfl rfl (by kernel_rfl) hp) rfl⟩) ?_
 refine D.on_op (fun uu _ => uu = .int .i64 y1.1) (fun _ _ _ h _ => h) (by
  intro ac ww kk hlo hhi hb hk
  obtain rfl : kk = 0 := by omega
  have h0 := hS; replace hS := hb.2.1
  have k4 : ac.eval (.tmp 4) = .pointer (some ⟨a0_reader_b, 0, none⟩) := hk.1
  have hKe : Ke ac [(4, .pointer (some ⟨a0_reader_b, 0, none⟩))] := (.cons k4 (.nil _))
  replace a0_reader_position_b_f := Els.mono rep_U8 a0_reader_position_b_f hb.1
  exact ⟨D.wanted0 rfl, D.callMO (k := 0) (Rr := [.box a0_reader_b #[.slice a0_reader_position_b_a a0.reader.position.b.length a0_reader_position_b_c, .int .i64 a0.reader.position.at_, .int .i64 a0.reader.position.fault.code, .int .i64 a0.reader.position.fault.at_] a0_reader_T]) (Ll := [.box b2 #[.int .i64 0, .int .i64 0, .int .i64 0, .int .i64 0, .slice none 0 0] 50, .box b1 #[.pointer (some ⟨a0_reader_b, 0, none⟩)] 61]) h0 (fun bq hbq => hlt0 bq (by revert hbq; simp [blocksOf, Ent.box, rowOf, Ent.row]; try omega)) (fun bq hbq => hlt0 bq (by revert hbq; simp [blocksOf, Ent.box, rowOf, Ent.row]; try omega)) ⟨hb.1, hS⟩ hKe ent41_1 rfl rfl rfl rfl (G.wire_Reader_Length_spec a0_reader_position_b_f hy1 (Ow.left (L := [.box a0_reader_b #[.slice a0_reader_position_b_a a0.reader.position.b.length a0_reader_position_b_c, .int .i64 a0.reader.position.at_, .int .i64 a0.reader.position.fault.code, .int .i64 a0.reader.position.fault.at_] a0_reader_T]) hS.ow)) (by kernel_rfl) (by
    rintro _ m' _ hg hl hnw hS2 ⟨rfl, rfl, c2re0⟩
    exact ⟨rfl, hS2, ⟨c2re0, trivial⟩⟩)⟩) ?_
 refine D.on_pure (D.GO_refl _ _) [(1, .pointer (some ⟨b1, 0, none⟩))] (.pointer (some ⟨b1, 0, none⟩)) (fun ac ww hk => (.cons (hk.1.trans (hK.at_ 1 _ rfl)) (.nil _))) ?_
 refine D.on_op (fun uu _ => uu = .pointer (some ⟨a0_reader_b, 0, none⟩)) (fun _ _ _ h _ => h) (by
  intro ac ww kk hlo hhi hb hk
  obtain rfl | rfl : kk = 0 ∨ kk = 1 := by omega
  all_goals (
   have h0 := hS; replace hS := hb.2.1
   have k6 : ac.eval (.tmp 6) = .pointer (some ⟨b1, 0, none⟩) := hk.1
   have hKe : Ke ac [(6, .pointer (some ⟨b1, 0, none⟩))] := (.cons k6 (.nil _))
   exact ⟨D.wanted0 rfl, D.valO (m := m2) hb (fun Post hp => s_load hKe hS 2 rfl rfl rfl rfl (by kernel_rfl) hp) rfl⟩)) ?_
 refine D.on_op (fun uu _ => uu = .int .i64 y2.1) (fun _ _ _ h _ => h) (by
  intro ac ww kk hlo hhi hb hk
  obtain rfl : kk = 1 := by omega
  have h0 := hS; replace hS := hb.2.1
  have k7 : ac.eval (.tmp 7) = .pointer (some ⟨a0_reader_b, 0, none⟩) := hk.1
  have hKe : Ke ac [(7, .pointer (some ⟨a0_reader_b, 0, none⟩))] := (.cons k7 (.nil _))
  replace a0_reader_position_b_f := Els.mono rep_U8 a0_reader_position_b_f hb.1
  have f1 : Els isU8 (m2.upO none ww) 1 a0_reader_position_b_a a0_reader_position_b_c y1.2.position.b := Els.cast (hb.2.2.1).symm a0_reader_position_b_f
  exact ⟨D.wanted0 rfl, D.callMO (k := 1) (Rr := [.box a0_reader_b #[.slice a0_reader_position_b_a y1.2.position.b.length a0_reader_position_b_c, .int .i64 y1.2.position.at_, .int .i64 y1.2.position.fault.code, .int .i64 y1.2.position.fault.at_] a0_reader_T]) (Ll := [.box b2 #[.int .i64 0, .int .i64 0, .int .i64 0, .int .i64 0, .slice none 0 0] 50, .box b1 #[.pointer (some ⟨a0_reader_b, 0, none⟩)] 61]) h0 (fun bq hbq => hlt0 bq (by revert hbq; simp [blocksOf, Ent.box, rowOf, Ent.row]; try omega)) (fun bq hbq => hlt0 bq (by revert hbq; simp [blocksOf, Ent.box, rowOf, Ent.row]; try omega)) ⟨hb.1, hS⟩ hKe ent41_1 rfl rfl rfl rfl (G.wire_Reader_Length_spec f1 hy2 (Ow.left (L := [.box a0_reader_b #[.slice a0_reader_position_b_a y1.2.position.b.length a0_reader_position_b_c, .int .i64 y1.2.position.at_, .int .i64 y1.2.position.fault.code, .int .i64 y1.2.position.fault.at_] a0_reader_T]) hS.ow)) (by kernel_rfl) (by
    rintro _ m' _ hg hl hnw hS2 ⟨rfl, rfl, c3re0⟩
    exact ⟨rfl, hS2, ⟨hb.2.2.1, c3re0, trivial⟩⟩)⟩) ?_
 refine D.on_pure (D.GO_refl _ _) [(1, .pointer (some ⟨b1, 0, none⟩))] (.pointer (some ⟨b1, 0, none⟩)) (fun ac ww hk => (.cons (hk.1.trans (hK.at_ 1 _ rfl)) (.nil _))) ?_
 refine D.on_op (fun uu _ => uu = .pointer (some ⟨a0_reader_b, 0, none⟩)) (fun _ _ _ h _ => h) (by
  intro ac ww kk hlo hhi hb hk
  obtain rfl | rfl | rfl : kk = 0 ∨ kk = 1 ∨ kk = 2 := by omega
  all_goals (
   have h0 := hS; replace hS := hb.2.1
   have k9 : ac.eval (.tmp 9) = .pointer (some ⟨b1, 0, none⟩) := hk.1
   have hKe : Ke ac [(9, .pointer (some ⟨b1, 0, none⟩))] := (.cons k9 (.nil _))
   exact ⟨D.wanted0 rfl, D.valO (m := m2) hb (fun Post hp => s_load hKe hS 2 rfl rfl rfl rfl (by kernel_rfl) hp) rfl⟩)) ?_
 refine D.finO ?_
 intro fr2 m3 hm1 l3 hS2 hF2 hE
 replace hS2 : St _ m m3 [.box a0_reader_b #[.slice a0_reader_position_b_a y2.2.position.b.length a0_reader_position_b_c, .int .i64 y2.2.position.at_, .int .i64 y2.2.position.fault.code, .int .i64 y2.2.position.fault.at_] a0_reader_T, .box b2 #[.int .i64 0, .int .i64 0, .int .i64 0, .int .i64 0, .slice none 0 0] 50, .box b1 #[.pointer (some ⟨a0_reader_b, 0, none⟩)] 61] := hS2
 have hK2 := D.kn_ends [(3, .pointer (some ⟨b1, 0, none⟩)), (4, .pointer (some ⟨a0_reader_b, 0, none⟩)), (5, .int .i64 y1.1), (6, .pointer (some ⟨b1, 0, none⟩)), (7, .pointer (some ⟨a0_reader_b, 0, none⟩)), (8, .int .i64 y2.1), (9, .pointer (some ⟨b1, 0, none⟩)), (10, .pointer (some ⟨a0_reader_b, 0, none⟩))] hK hE rfl (by kernel_rfl) (.cons (hE.slots 3) (.cons (hE.slots 4) (.cons (hE.slots 5) (.cons (hE.slots 6) (.cons (hE.slots 7) (.cons (hE.slots 8) (.cons (hE.slots 9) (.cons (hE.slots 10) (.nil _)))))))))
 replace hK2 : Kn 13 fr2 [(3, .pointer (some ⟨b1, 0, none⟩)), (4, .pointer (some ⟨a0_reader_b, 0, none⟩)), (5, .int .i64 y1.1), (6, .pointer (some ⟨b1, 0, none⟩)), (7, .pointer (some ⟨a0_reader_b, 0, none⟩)), (8, .int .i64 y2.1), (9, .pointer (some ⟨b1, 0, none⟩)), (10, .pointer (some ⟨a0_reader_b, 0, none⟩)), (2, .pointer (some ⟨b2, 0, none⟩)), (1, .pointer (some ⟨b1, 0, none⟩)), (0, .agg #[.pointer (some ⟨a0_reader_b, 0, none⟩)])] := hK2.only [3, 4, 5, 6, 7, 8, 9, 10, 2, 1, 0]
 clear hE hK; revert hK2; clear hm1 hS hlt0; revert fr2; clear fr; intro fr hK; have hS := hS2; clear hS2
 obtain ⟨he1, he2, -⟩ := hF2
 replace hS : St _ m m3 [.box a0_reader_b #[.slice a0_reader_position_b_a y2.2.position.b.length a0_reader_position_b_c, .int .i64 y2.2.position.at_, .int .i64 y2.2.position.fault.code, .int .i64 y2.2.position.fault.at_] a0_reader_T, .box b2 #[.int .i64 0, .int .i64 0, .int .i64 0, .int .i64 0, .slice none 0 0] 50, .box b1 #[.pointer (some ⟨a0_reader_b, 0, none⟩)] 61] := hS
 replace a0_reader_position_b_f := Els.mono rep_U8 a0_reader_position_b_f l3
 have f3 : Els isU8 m3 1 a0_reader_position_b_a a0_reader_position_b_c y1.2.position.b := Els.cast he1.symm a0_reader_position_b_f
 have f4 : Els isU8 m3 1 a0_reader_position_b_a a0_reader_position_b_c y2.2.position.b := Els.cast he2.symm f3
 obtain ⟨y3, hy3, h⟩ := bind_some h
 replace hS : St _ m m3 [.box a0_reader_b #[.slice a0_reader_position_b_a y2.2.position.b.length a0_reader_position_b_c, .int .i64 y2.2.position.at_, .int .i64 y2.2.position.fault.code, .int .i64 y2.2.position.fault.at_] a0_reader_T, .box b2 #[.int .i64 0, .int .i64 0, .int .i64 0, .int .i64 0, .slice none 0 0] 50, .box b1 #[.pointer (some ⟨a0_reader_b, 0, none⟩)] 61] := hS
 refine qo 11 hK (s_callM (R := [.box a0_reader_b #[.slice a0_reader_position_b_a y2.2.position.b.length a0_reader_position_b_c, .int .i64 y2.2.position.at_, .int .i64 y2.2.position.fault.code, .int .i64 y2.2.position.fault.at_] a0_reader_T]) (L := [.box b2 #[.int .i64 0, .int .i64 0, .int .i64 0, .int .i64 0, .slice none 0 0] 50, .box b1 #[.pointer (some ⟨a0_reader_b, 0, none⟩)] 61]) hK.at_ hS ent41_1 rfl rfl rfl rfl (G.wire_Reader_Length_spec f4 hy3 (Ow.left (L := [.box a0_reader_b #[.slice a0_reader_position_b_a y2.2.position.b.length a0_reader_position_b_c, .int .i64 y2.2.position.at_, .int .i64 y2.2.position.fault.code, .int .i64 y2.2.position.fault.at_] a0_reader_T]) hS.ow)) (by kernel_rfl) ?_)
 clear hK fr hS; rintro _ m4 _ l4 hS ⟨rfl, rfl, c4re0⟩ fr hK
 refine qp 12 (.agg #[.int .i64 1, .int .i64 y1.1, .int .i64 y2.1, .int .i64 y3.1, .slice none 0 0]) hK fun fr hK => ?_
 refine qo0 hK (s_storeAll hK.at_ 1 hS rfl rfl rfl rfl (by kernel_rfl) (by kernel_rfl) (by kernel_rfl) ?_)
 clear hK fr hS; intro m5 l5 hS fr hK
 replace hS : St _ m m5 [.box b2 #[.int .i64 1, .int .i64 y1.1, .int .i64 y2.1, .int .i64 y3.1, .slice none 0 0] 50, .box a0_reader_b #[.slice a0_reader_position_b_a y3.2.position.b.length a0_reader_position_b_c, .int .i64 y3.2.position.at_, .int .i64 y3.2.position.fault.code, .int .i64 y3.2.position.fault.at_] a0_reader_T, .box b1 #[.pointer (some ⟨a0_reader_b, 0, none⟩)] 61] := hS
 refine wpList_nil (then_n ?_)
 refine wp_ret ?_
 replace f4 := Els.mono rep_U8 f4 (l4.trans l5)
 have f5 : Els isU8 m5 1 a0_reader_position_b_a a0_reader_position_b_c y3.2.position.b := Els.cast c4re0.symm f4
 replace h := Option.some.inj h; subst h
 replace hS := hS.front 1 rfl
 replace hS : St _ m m5 [.box a0_reader_b #[.slice a0_reader_position_b_a y3.2.position.b.length a0_reader_position_b_c, .int .i64 y3.2.position.at_, .int .i64 y3.2.position.fault.code, .int .i64 y3.2.position.fault.at_] a0_reader_T, .box b2 #[.int .i64 1, .int .i64 y1.1, .int .i64 y2.1, .int .i64 y3.1, .slice none 0 0] 50, .box b1 #[.pointer (some ⟨a0_reader_b, 0, none⟩)] 61] := hS
 refine ret_of [.cell 2 50] [.agg #[.int .i64 1, .int .i64 y1.1, .int .i64 y2.1, .int .i64 y3.1, .slice none 0 0]] rfl hK (ResL.box hS 1 rfl rfl (by kernel_rfl) .nil) (St.keep (L := [.box a0_reader_b #[.slice a0_reader_position_b_a y3.2.position.b.length a0_reader_position_b_c, .int .i64 y3.2.position.at_, .int .i64 y3.2.position.fault.code, .int .i64 y3.2.position.fault.at_] a0_reader_T]) (R := [.box b2 #[.int .i64 1, .int .i64 y1.1, .int .i64 y2.1, .int .i64 y3.1, .slice none 0 0] 50, .box b1 #[.pointer (some ⟨a0_reader_b, 0, none⟩)] 61]) hS) ?_
 exact ⟨none, 0, rfl, rfl, (Els.nil _ _), (c4re0.trans (he2.trans he1))⟩
set_option maxRecDepth 100000 in
set_option maxHeartbeats 1000000 in
theorem G.format_decoder_literal_spec {m : Mem} {a0 : G.format_decoder} {a0_reader_b : Nat} {a0_reader_position_b_a : Option Addr} {a0_reader_position_b_c : Nat} {a0_reader_T : TypeId} (a0_reader_position_b_f : Els isU8 m 1 a0_reader_position_b_a a0_reader_position_b_c a0.reader.position.b) {r : G.Command × G.wire_Reader} (h : G.format_decoder_literal a0 = some r) (hO : Ow m [.box a0_reader_b #[.slice a0_reader_position_b_a a0.reader.position.b.length a0_reader_position_b_c, .int .i64 a0.reader.position.at_, .int .i64 a0.reader.position.fault.code, .int .i64 a0.reader.position.fault.at_] a0_reader_T]) :
  Spec Try.prog 82 #[.agg #[.pointer (some ⟨a0_reader_b, 0, none⟩)]] m [.box a0_reader_b #[.slice a0_reader_position_b_a a0.reader.position.b.length a0_reader_position_b_c, .int .i64 a0.reader.position.at_, .int .i64 a0.reader.position.fault.code, .int .i64 a0.reader.position.fault.at_] a0_reader_T] fun v m' L => ∃ (r0_data_g : Option Nat) (r0_data_c : Nat), L = [.box a0_reader_b #[.slice a0_reader_position_b_a r.2.position.b.length a0_reader_position_b_c, .int .i64 r.2.position.at_, .int .i64 r.2.position.fault.code, .int .i64 r.2.position.fault.at_] a0_reader_T, rowOf 5 1 r0_data_g r0_data_c r.1.data] ∧ v = .agg #[.int .i64 r.1.kind, .int .i64 r.1.to, .int .i64 r.1.from_, .int .i64 r.1.len, .slice (adr r0_data_g) r.1.data.length r0_data_c] ∧ Els isU8 m' 1 (adr r0_data_g) r0_data_c r.1.data ∧ r.2.position.b = a0.reader.position.b := by
 unfold G.format_decoder_literal at h
 refine enter (args := [_]) 15 Try.func82 rfl rfl (by simp) fun fr hK => ?_
 have hS := St.refl (hO)
 replace hK : Kn 15 fr [(0, .agg #[.pointer (some ⟨a0_reader_b, 0, none⟩)])] := hK
 refine w_seq (w_region ?_)
 refine qo 1 hK (s_box hK.at_ hS rfl rfl ?_)
 clear hK fr hS; intro m1 b1 b1z l1 hS fr hK
 refine qo 2 hK (s_alloc (.agg #[.int .i64 0, .int .i64 0, .int .i64 0, .int .i64 0, .slice none 0 0]) hK.at_ hS rfl (by kernel_rfl) ?_)
 clear hK fr hS; intro m2 b2 b2z l2 hS fr hK
 replace hS : St _ m m2 [.box b2 #[.int .i64 0, .int .i64 0, .int .i64 0, .int .i64 0, .slice none 0 0] 50, .box b1 #[.pointer (some ⟨a0_reader_b, 0, none⟩)] 61, .box a0_reader_b #[.slice a0_reader_position_b_a a0.reader.position.b.length a0_reader_position_b_c, .int .i64 a0.reader.position.at_, .int .i64 a0.reader.position.fault.code, .int .i64 a0.reader.position.fault.at_] a0_reader_T] := hS
 refine wpList_nil (then_n ?_)
 refine w_seq (w_region ?_)
 refine qp 4 (.pointer (some ⟨b1, 0, none⟩)) hK fun fr hK => ?_
 refine qo 5 hK (s_load hK.at_ hS 1 rfl rfl rfl rfl (by kernel_rfl) ?_)
 clear hK fr; intro fr hK
 replace a0_reader_position_b_f := Els.mono rep_U8 a0_reader_position_b_f (l1.trans l2)
 obtain ⟨y1, hy1, h⟩ := bind_some h
 replace hS := hS.front 2 rfl
 replace hS : St _ m m2 [.box a0_reader_b #[.slice a0_reader_position_b_a a0.reader.position.b.length a0_reader_position_b_c, .int .i64 a0.reader.position.at_, .int .i64 a0.reader.position.fault.code, .int .i64 a0.reader.position.fault.at_] a0_reader_T, .box b2 #[.int .i64 0, .int .i64 0, .int .i64 0, .int .i64 0, .slice none 0 0] 50, .box b1 #[.pointer (some ⟨a0_reader_b, 0, none⟩)] 61] := hS
 refine qo 6 hK (s_callM (R := [.box a0_reader_b #[.slice a0_reader_position_b_a a0.reader.position.b.length a0_reader_position_b_c, .int .i64 a0.reader.position.at_, .int .i64 a0.reader.position.fault.code, .int .i64 a0.reader.position.fault.at_] a0_reader_T]) (L := [.box b2 #[.int .i64 0, .int .i64 0, .int .i64 0, .int .i64 0, .slice none 0 0] 50, .box b1 #[.pointer (some ⟨a0_reader_b, 0, none⟩)] 61]) hK.at_ hS ent41_1 rfl rfl rfl rfl (G.wire_Reader_Length_spec a0_reader_position_b_f hy1 (Ow.left (L := [.box a0_reader_b #[.slice a0_reader_position_b_a a0.reader.position.b.length a0_reader_position_b_c, .int .i64 a0.reader.position.at_, .int .i64 a0.reader.position.fault.code, .int .i64 a0.reader.position.fault.at_] a0_reader_T]) hS.ow)) (by kernel_rfl) ?_)
 clear hK fr hS; rintro _ m3 _ l3 hS ⟨rfl, rfl, c1re0⟩ fr hK
 replace hS : St _ m m3 [.box a0_reader_b #[.slice a0_reader_position_b_a y1.2.position.b.length a0_reader_position_b_c, .int .i64 y1.2.position.at_, .int .i64 y1.2.position.fault.code, .int .i64 y1.2.position.fault.at_] a0_reader_T, .box b2 #[.int .i64 0, .int .i64 0, .int .i64 0, .int .i64 0, .slice none 0 0] 50, .box b1 #[.pointer (some ⟨a0_reader_b, 0, none⟩)] 61] := hS
 refine qp 3 (.int .i64 y1.1) hK fun fr hK => ?_
 refine wpList_nil (then_n ?_)
 refine w_seq ?_
 replace a0_reader_position_b_f := Els.mono rep_U8 a0_reader_position_b_f l3
 have f1 : Els isU8 m3 1 a0_reader_position_b_a a0_reader_position_b_c y1.2.position.b := Els.cast c1re0.symm a0_reader_position_b_f
 obtain ⟨y2, hy2, h⟩ := bind_some h
 obtain ⟨y3, hy3, h⟩ := bind_some h
 have hm0 : ∀ p ∈ ([(fun _ A _ => A = [.box a0_reader_b #[.slice a0_reader_position_b_a y1.2.position.b.length a0_reader_position_b_c, .int .i64 y1.2.position.at_, .int .i64 y1.2.position.fault.code, .int .i64 y1.2.position.fault.at_] a0_reader_T]), (fun l A M => l[0]? = some (.int .i64 y2.1) ∧ A = [.box a0_reader_b #[.slice a0_reader_position_b_a y2.2.position.b.length a0_reader_position_b_c, .int .i64 y2.2.position.at_, .int .i64 y2.2.position.fault.code, .int .i64 y2.2.position.fault.at_] a0_reader_T] ∧ y2.2.position.b = y1.2.position.b), (fun l A M => ∃ (c3r0_g : Option Nat) (c3r0_c : Nat), l[0]? = some (.int .i64 y2.1) ∧ l[1]? = some (.slice (adr c3r0_g) y3.1.length c3r0_c) ∧ A = [.box a0_reader_b #[.slice a0_reader_position_b_a y3.2.position.b.length a0_reader_position_b_c, .int .i64 y3.2.position.at_, .int .i64 y3.2.position.fault.code, .int .i64 y3.2.position.fault.at_] a0_reader_T, rowOf 5 1 c3r0_g c3r0_c y3.1] ∧ Els isU8 M 1 (adr c3r0_g) c3r0_c y3.1 ∧ y2.2.position.b = y1.2.position.b ∧ y3.2.position.b = y2.2.position.b)] : List D.Stage), D.MonoP p := D.allP_cons (fun _ _ _ _ h _ => h) (D.allP_cons (fun _ _ _ _ ⟨el0, eA, eq0⟩ hl => ⟨el0, eA, eq0⟩) (D.allP_cons (fun _ _ _ _ ⟨c3r0_g, c3r0_c, el0, el1, eA, c3r0_f, eq0, eq1⟩ hl => ⟨c3r0_g, c3r0_c, el0, el1, eA, Els.mono rep_U8 c3r0_f hl, eq0, eq1⟩) (D.allP_nil)))
 have hCm := D.C1_mono [.box b2 #[.int .i64 0, .int .i64 0, .int .i64 0, .int .i64 0, .slice none 0 0] 50, .box b1 #[.pointer (some ⟨a0_reader_b, 0, none⟩)] 61] hm0
 refine D.wp_drawM (m0 := m3) 7 [[5, 6]] [([(3, none)], [(0, 2)], none), ([(1, none)], [(0, 1)], none), ([(8, some 0)], [(0, 1)], none), ([(1, none)], [(0, 0)], none), ([(10, some 0)], [(0, 0)], none), ([(11, some 0)], [(0, 0)], some 0), ([(9, some 3), (12, some 0)], [(1, 1)], some 0)] (D.SM m3 m (blocksOf [.box a0_reader_b #[.slice a0_reader_position_b_a a0.reader.position.b.length a0_reader_position_b_c, .int .i64 a0.reader.position.at_, .int .i64 a0.reader.position.fault.code, .int .i64 a0.reader.position.fault.at_] a0_reader_T]) (D.C1 [(fun _ A _ => A = [.box a0_reader_b #[.slice a0_reader_position_b_a y1.2.position.b.length a0_reader_position_b_c, .int .i64 y1.2.position.at_, .int .i64 y1.2.position.fault.code, .int .i64 y1.2.position.fault.at_] a0_reader_T]), (fun l A M => l[0]? = some (.int .i64 y2.1) ∧ A = [.box a0_reader_b #[.slice a0_reader_position_b_a y2.2.position.b.length a0_reader_position_b_c, .int .i64 y2.2.position.at_, .int .i64 y2.2.position.fault.code, .int .i64 y2.2.position.fault.at_] a0_reader_T] ∧ y2.2.position.b = y1.2.position.b), (fun l A M => ∃ (c3r0_g : Option Nat) (c3r0_c : Nat), l[0]? = some (.int .i64 y2.1) ∧ l[1]? = some (.slice (adr c3r0_g) y3.1.length c3r0_c) ∧ A = [.box a0_reader_b #[.slice a0_reader_position_b_a y3.2.position.b.length a0_reader_position_b_c, .int .i64 y3.2.position.at_, .int .i64 y3.2.position.fault.code, .int .i64 y3.2.position.fault.at_] a0_reader_T, rowOf 5 1 c3r0_g c3r0_c y3.1] ∧ Els isU8 M 1 (adr c3r0_g) c3r0_c y3.1 ∧ y2.2.position.b = y1.2.position.b ∧ y3.2.position.b = y2.2.position.b)] [.box b2 #[.int .i64 0, .int .i64 0, .int .i64 0, .int .i64 0, .slice none 0 0] 50, .box b1 #[.pointer (some ⟨a0_reader_b, 0, none⟩)] 61])) hK.size (by kernel_rfl) (by kernel_rfl) (by kernel_rfl) (D.start1 hS (fun _ => rfl)) ?_
 refine D.onP [(3, .int .i64 y1.1)] (.int .i64 y1.1) (fun ac MM hk => (.cons (hk.1.trans (hK.at_ 3 _ rfl)) (.nil _))) ?_
 refine D.onP [(1, .pointer (some ⟨b1, 0, none⟩))] (.pointer (some ⟨b1, 0, none⟩)) (fun ac MM hk => (.cons (hk.1.trans (hK.at_ 1 _ rfl)) (.nil _))) ?_
 refine D.onA (fun uu _ => uu = .pointer (some ⟨a0_reader_b, 0, none⟩)) (fun _ _ _ h _ => h) (by
  intro ac MM vs hbd hcor hS00 hk; have hS0 := hS00
  obtain ⟨hle, LL, hC, hSt⟩ := hS0
  have hSt0 := hSt
  have hC0 := hC; obtain ⟨A0, h0, rfl⟩ := hC
  have hS := D.St_right (hSt)
  have k8 : ac.eval (.tmp 8) = .pointer (some ⟨b1, 0, none⟩) := hk.1
  have hKe : Ke ac [(8, .pointer (some ⟨b1, 0, none⟩))] := (.cons k8 (.nil _))
  exact ⟨D.wanted0 rfl, s_load hKe hS 1 rfl rfl rfl rfl (by kernel_rfl) ⟨MM, rfl, Le.refl _, rfl, hS00⟩⟩) ?_
 refine D.onP [(1, .pointer (some ⟨b1, 0, none⟩))] (.pointer (some ⟨b1, 0, none⟩)) (fun ac MM hk => (.cons (hk.1.trans (hK.at_ 1 _ rfl)) (.nil _))) ?_
 refine D.onA (fun uu _ => uu = .pointer (some ⟨a0_reader_b, 0, none⟩)) (fun _ _ _ h _ => h) (by
  intro ac MM vs hbd hcor hS00 hk; have hS0 := hS00
  obtain ⟨hle, LL, hC, hSt⟩ := hS0
  have hSt0 := hSt
  have hC0 := hC; obtain ⟨A0, h0, rfl⟩ := hC
  have hS := D.St_right (hSt)
  have k10 : ac.eval (.tmp 10) = .pointer (some ⟨b1, 0, none⟩) := hk.1
  have hKe : Ke ac [(10, .pointer (some ⟨b1, 0, none⟩))] := (.cons k10 (.nil _))
  exact ⟨D.wanted0 rfl, s_load hKe hS 1 rfl rfl rfl rfl (by kernel_rfl) ⟨MM, rfl, Le.refl _, rfl, hS00⟩⟩) ?_
 refine D.onA (fun uu _ => uu = .int .i64 y2.1) (fun _ _ _ h _ => h) (by
  intro ac MM vs hbd hcor hS00 hk; have hS0 := hS00
  obtain ⟨hle, LL, hC, hSt⟩ := hS0
  have hSt0 := hSt
  have hC0 := hC; obtain ⟨A0, h0, rfl⟩ := hC
  have hn := D.bd_eq hbd 0 0 rfl
  obtain rfl := D.CH.at h0 hn rfl
  replace hSt := hSt
  have k11 : ac.eval (.tmp 11) = .pointer (some ⟨a0_reader_b, 0, none⟩) := hk.1
  have hKe : Ke ac [(11, .pointer (some ⟨a0_reader_b, 0, none⟩))] := (.cons k11 (.nil _))
  replace f1 := Els.mono rep_U8 f1 hle
  exact ⟨D.wanted0 rfl, s_callM (R := [.box a0_reader_b #[.slice a0_reader_position_b_a y1.2.position.b.length a0_reader_position_b_c, .int .i64 y1.2.position.at_, .int .i64 y1.2.position.fault.code, .int .i64 y1.2.position.fault.at_] a0_reader_T]) hKe hSt ent41_1 rfl rfl rfl rfl (G.wire_Reader_Length_spec f1 hy2 (Ow.left (L := [.box a0_reader_b #[.slice a0_reader_position_b_a y1.2.position.b.length a0_reader_position_b_c, .int .i64 y1.2.position.at_, .int .i64 y1.2.position.fault.code, .int .i64 y1.2.position.fault.at_] a0_reader_T]) hSt.ow)) (by kernel_rfl) (by
    rintro _ M2 _ l2 hS2 ⟨rfl, rfl, eq0⟩
    exact ⟨M2, rfl, l2, rfl, hle.trans l2, _, ⟨_, D.CH.push hn rfl ⟨D.get_push hn, rfl, eq0⟩, rfl⟩, hS2⟩)⟩) ?_
 refine D.onA (fun uu MM => ∃ (c3r0_g : Option Nat) (c3r0_c : Nat), uu = .slice (adr c3r0_g) y3.1.length c3r0_c ∧ Els isU8 MM 1 (adr c3r0_g) c3r0_c y3.1) (fun _ _ _ ⟨c3r0_g, c3r0_c, e, c3r0_f⟩ g => ⟨c3r0_g, c3r0_c, e, Els.mono rep_U8 c3r0_f g⟩) (by
  intro ac MM vs hbd hcor hS00 hk; have hS0 := hS00
  obtain ⟨hle, LL, hC, hSt⟩ := hS0
  have hSt0 := hSt
  have hC0 := hC; obtain ⟨A0, h0, rfl⟩ := hC
  have hn := D.bd_eq hbd 0 1 rfl
  obtain ⟨el0, rfl, eq0⟩ := D.CH.at h0 hn rfl
  replace hSt := hSt
  have k9 : ac.eval (.tmp 9) = .pointer (some ⟨a0_reader_b, 0, none⟩) := hk.1
  have k12 : ac.eval (.tmp 12) = .int .i64 y2.1 := hcor 0 0 _ _ _ _ rfl rfl rfl el0
  have hKe : Ke ac [(9, .pointer (some ⟨a0_reader_b, 0, none⟩)), (12, .int .i64 y2.1)] := (.cons k9 (.cons k12 (.nil _)))
  replace f1 := Els.mono rep_U8 f1 hle
  have f2 : Els isU8 MM 1 a0_reader_position_b_a a0_reader_position_b_c y2.2.position.b := Els.cast eq0.symm f1
  exact ⟨D.wanted0 rfl, s_callM (R := [.box a0_reader_b #[.slice a0_reader_position_b_a y2.2.position.b.length a0_reader_position_b_c, .int .i64 y2.2.position.at_, .int .i64 y2.2.position.fault.code, .int .i64 y2.2.position.fault.at_] a0_reader_T]) hKe hSt ent80_1 rfl rfl rfl rfl (G.wire_Reader_Bytes_spec f2 hy3 (Ow.left (L := [.box a0_reader_b #[.slice a0_reader_position_b_a y2.2.position.b.length a0_reader_position_b_c, .int .i64 y2.2.position.at_, .int .i64 y2.2.position.fault.code, .int .i64 y2.2.position.fault.at_] a0_reader_T]) hSt.ow)) (by kernel_rfl) (by
    rintro _ M2 _ l2 hS2 ⟨c3r0_g, c3r0_c, rfl, rfl, c3r0_f, eq1⟩
    exact ⟨M2, rfl, l2, ⟨c3r0_g, c3r0_c, rfl, c3r0_f⟩, hle.trans l2, _, ⟨_, D.CH.push hn rfl ⟨c3r0_g, c3r0_c, D.get_old el0, D.get_push hn, rfl, c3r0_f, eq0, eq1⟩, rfl⟩, hS2⟩)⟩) ?_
 intro fr2 m4 vs hlen hcor hS2 hE; obtain ⟨l4, LL, hC, hS2⟩ := hS2
 obtain ⟨A0, h0, rfl⟩ := hC
 obtain ⟨c3r0_g, c3r0_c, el0_0, el0_1, rfl, c3r0_f, eq0_0, eq0_1⟩ := D.CH.at h0 (hlen 0) rfl
 replace hS2 : St _ m m4 [.box a0_reader_b #[.slice a0_reader_position_b_a y3.2.position.b.length a0_reader_position_b_c, .int .i64 y3.2.position.at_, .int .i64 y3.2.position.fault.code, .int .i64 y3.2.position.fault.at_] a0_reader_T, rowOf 5 1 c3r0_g c3r0_c y3.1, .box b2 #[.int .i64 0, .int .i64 0, .int .i64 0, .int .i64 0, .slice none 0 0] 50, .box b1 #[.pointer (some ⟨a0_reader_b, 0, none⟩)] 61] := hS2
 have kl13 : fr2.eval (.tmp 13) = .slice (adr c3r0_g) y3.1.length c3r0_c := hcor 0 1 _ _ _ _ rfl rfl rfl el0_1
 have hK2 := D.kn_endsM [(7, .int .i64 y1.1), (8, .pointer (some ⟨b1, 0, none⟩)), (9, .pointer (some ⟨a0_reader_b, 0, none⟩)), (10, .pointer (some ⟨b1, 0, none⟩)), (11, .pointer (some ⟨a0_reader_b, 0, none⟩)), (12, .int .i64 y2.1), (13, .slice (adr c3r0_g) y3.1.length c3r0_c)] hK hE rfl (by kernel_rfl) (.cons (hE.slots 7) (.cons (hE.slots 8) (.cons (hE.slots 9) (.cons (hE.slots 10) (.cons (hE.slots 11) (.cons (hcor 0 0 _ _ _ _ rfl rfl rfl el0_0) (.cons (kl13) (.nil _))))))))
 replace hK2 : Kn 15 fr2 [(7, .int .i64 y1.1), (8, .pointer (some ⟨b1, 0, none⟩)), (9, .pointer (some ⟨a0_reader_b, 0, none⟩)), (10, .pointer (some ⟨b1, 0, none⟩)), (11, .pointer (some ⟨a0_reader_b, 0, none⟩)), (12, .int .i64 y2.1), (13, .slice (adr c3r0_g) y3.1.length c3r0_c), (3, .int .i64 y1.1), (6, .int .i64 y1.1), (5, .pointer (some ⟨a0_reader_b, 0, none⟩)), (4, .pointer (some ⟨b1, 0, none⟩)), (2, .pointer (some ⟨b2, 0, none⟩)), (1, .pointer (some ⟨b1, 0, none⟩)), (0, .agg #[.pointer (some ⟨a0_reader_b, 0, none⟩)])] := hK2.only [7, 8, 9, 10, 11, 12, 13, 3, 6, 5, 4, 2, 1, 0]
 clear hE hK hcor hlen kl13 h0 el0_0 el0_1; revert hK2; clear hS; revert fr2; clear fr; intro fr hK; have hS := hS2; clear hS2 hCm hm0
 refine qp 14 (.agg #[.int .i64 2, .int .i64 y1.1, .int .i64 0, .int .i64 0, .slice (adr c3r0_g) y3.1.length c3r0_c]) hK fun fr hK => ?_
 refine qo0 hK (s_storeAll hK.at_ 2 hS rfl rfl rfl rfl (by kernel_rfl) (by kernel_rfl) (by kernel_rfl) ?_)
 clear hK fr hS; intro m5 l5 hS fr hK
 replace hS : St _ m m5 [.box b2 #[.int .i64 2, .int .i64 y1.1, .int .i64 0, .int .i64 0, .slice (adr c3r0_g) y3.1.length c3r0_c] 50, .box a0_reader_b #[.slice a0_reader_position_b_a y3.2.position.b.length a0_reader_position_b_c, .int .i64 y3.2.position.at_, .int .i64 y3.2.position.fault.code, .int .i64 y3.2.position.fault.at_] a0_reader_T, rowOf 5 1 c3r0_g c3r0_c y3.1, .box b1 #[.pointer (some ⟨a0_reader_b, 0, none⟩)] 61] := hS
 refine wpList_nil (then_n ?_)
 refine wp_ret ?_
 replace f1 := Els.mono rep_U8 f1 (l4.trans l5)
 have f3 : Els isU8 m5 1 a0_reader_position_b_a a0_reader_position_b_c y2.2.position.b := Els.cast eq0_0.symm f1
 have f4 : Els isU8 m5 1 a0_reader_position_b_a a0_reader_position_b_c y3.2.position.b := Els.cast eq0_1.symm f3
 replace c3r0_f := Els.mono rep_U8 c3r0_f l5
 replace h := Option.some.inj h; subst h
 replace hS := hS.front 2 rfl
 replace hS := hS.front 2 rfl
 replace hS : St _ m m5 [.box a0_reader_b #[.slice a0_reader_position_b_a y3.2.position.b.length a0_reader_position_b_c, .int .i64 y3.2.position.at_, .int .i64 y3.2.position.fault.code, .int .i64 y3.2.position.fault.at_] a0_reader_T, rowOf 5 1 c3r0_g c3r0_c y3.1, .box b2 #[.int .i64 2, .int .i64 y1.1, .int .i64 0, .int .i64 0, .slice (adr c3r0_g) y3.1.length c3r0_c] 50, .box b1 #[.pointer (some ⟨a0_reader_b, 0, none⟩)] 61] := hS
 refine ret_of [.cell 2 50] [.agg #[.int .i64 2, .int .i64 y1.1, .int .i64 0, .int .i64 0, .slice (adr c3r0_g) y3.1.length c3r0_c]] rfl hK (ResL.box hS 2 rfl rfl (by kernel_rfl) .nil) (St.keep (L := [.box a0_reader_b #[.slice a0_reader_position_b_a y3.2.position.b.length a0_reader_position_b_c, .int .i64 y3.2.position.at_, .int .i64 y3.2.position.fault.code, .int .i64 y3.2.position.fault.at_] a0_reader_T, rowOf 5 1 c3r0_g c3r0_c y3.1]) (R := [.box b2 #[.int .i64 2, .int .i64 y1.1, .int .i64 0, .int .i64 0, .slice (adr c3r0_g) y3.1.length c3r0_c] 50, .box b1 #[.pointer (some ⟨a0_reader_b, 0, none⟩)] 61]) hS) ?_
 exact ⟨c3r0_g, c3r0_c, rfl, rfl, c3r0_f, (eq0_1.trans (eq0_0.trans c1re0))⟩
set_option maxRecDepth 100000 in
set_option maxHeartbeats 1000000 in
theorem G.format_decoder_command_spec {m : Mem} {a0 : G.format_decoder} {a0_reader_b : Nat} {a0_reader_position_b_a : Option Addr} {a0_reader_position_b_c : Nat} {a0_reader_T : TypeId} (a0_reader_position_b_f : Els isU8 m 1 a0_reader_position_b_a a0_reader_position_b_c a0.reader.position.b) {r : G.Command × G.wire_Reader} (h : G.format_decoder_command a0 = some r) (hO : Ow m [.box a0_reader_b #[.slice a0_reader_position_b_a a0.reader.position.b.length a0_reader_position_b_c, .int .i64 a0.reader.position.at_, .int .i64 a0.reader.position.fault.code, .int .i64 a0.reader.position.fault.at_] a0_reader_T]) :
  Spec Try.prog 44 #[.agg #[.pointer (some ⟨a0_reader_b, 0, none⟩)]] m [.box a0_reader_b #[.slice a0_reader_position_b_a a0.reader.position.b.length a0_reader_position_b_c, .int .i64 a0.reader.position.at_, .int .i64 a0.reader.position.fault.code, .int .i64 a0.reader.position.fault.at_] a0_reader_T] fun v m' L => ∃ (r0_data_a : Option Addr) (r0_data_c : Nat), L = [.box a0_reader_b #[.slice a0_reader_position_b_a r.2.position.b.length a0_reader_position_b_c, .int .i64 r.2.position.at_, .int .i64 r.2.position.fault.code, .int .i64 r.2.position.fault.at_] a0_reader_T] ∧ v = .agg #[.int .i64 r.1.kind, .int .i64 r.1.to, .int .i64 r.1.from_, .int .i64 r.1.len, .slice r0_data_a r.1.data.length r0_data_c] ∧ Els isU8 m' 1 r0_data_a r0_data_c r.1.data ∧ r.2.position.b = a0.reader.position.b := by
 unfold G.format_decoder_command at h
 refine enter (args := [_]) 30 Try.func44 rfl rfl (by simp) fun fr hK => ?_
 have hS := St.refl (hO)
 replace hK : Kn 30 fr [(0, .agg #[.pointer (some ⟨a0_reader_b, 0, none⟩)])] := hK
 refine w_seq (w_region ?_)
 refine qo 1 hK (s_box hK.at_ hS rfl rfl ?_)
 clear hK fr hS; intro m1 b1 b1z l1 hS fr hK
 refine qo 2 hK (s_alloc (.agg #[.int .i64 0, .int .i64 0, .int .i64 0, .int .i64 0, .slice none 0 0]) hK.at_ hS rfl (by kernel_rfl) ?_)
 clear hK fr hS; intro m2 b2 b2z l2 hS fr hK
 replace hS : St _ m m2 [.box b2 #[.int .i64 0, .int .i64 0, .int .i64 0, .int .i64 0, .slice none 0 0] 50, .box b1 #[.pointer (some ⟨a0_reader_b, 0, none⟩)] 61, .box a0_reader_b #[.slice a0_reader_position_b_a a0.reader.position.b.length a0_reader_position_b_c, .int .i64 a0.reader.position.at_, .int .i64 a0.reader.position.fault.code, .int .i64 a0.reader.position.fault.at_] a0_reader_T] := hS
 refine wpList_nil (then_n ?_)
 refine w_seq (w_region ?_)
 refine qo 6 hK (s_makeMap hK.at_ hS rfl ?_)
 clear hK fr hS; intro m3 b3 l3 hS fr hK
 replace hS : St _ m m3 [.obj b3 (.map #[] 0), .box b2 #[.int .i64 0, .int .i64 0, .int .i64 0, .int .i64 0, .slice none 0 0] 50, .box b1 #[.pointer (some ⟨a0_reader_b, 0, none⟩)] 61, .box a0_reader_b #[.slice a0_reader_position_b_a a0.reader.position.b.length a0_reader_position_b_c, .int .i64 a0.reader.position.at_, .int .i64 a0.reader.position.fault.code, .int .i64 a0.reader.position.fault.at_] a0_reader_T] := hS
 refine qo 7 hK (s_loadAll hK.at_ hS 2 rfl rfl rfl (by kernel_rfl) ?_)
 clear hK fr; intro fr hK
 refine qp 8 (.func (.func 81) #[.agg #[.pointer (some ⟨a0_reader_b, 0, none⟩)]] #[]) hK fun fr hK => ?_
 refine qo0 hK (s_mapPut Try.underlying115 Try.underlying3 hK.at_ 0 hS rfl (.inl rfl) rfl rfl rfl (by rfl) ?_)
 clear hK fr hS; intro m4 l4 hS fr hK
 replace hS : St _ m m4 [.obj b3 (.map #[⟨.int .i64 1, .func (.func 81) #[.agg #[.pointer (some ⟨a0_reader_b, 0, none⟩)]] #[], 0⟩] 1), .box b2 #[.int .i64 0, .int .i64 0, .int .i64 0, .int .i64 0, .slice none 0 0] 50, .box b1 #[.pointer (some ⟨a0_reader_b, 0, none⟩)] 61, .box a0_reader_b #[.slice a0_reader_position_b_a a0.reader.position.b.length a0_reader_position_b_c, .int .i64 a0.reader.position.at_, .int .i64 a0.reader.position.fault.code, .int .i64 a0.reader.position.fault.at_] a0_reader_T] := hS
 refine qo 9 hK (s_loadAll hK.at_ hS 2 rfl rfl rfl (by kernel_rfl) ?_)
 clear hK fr; intro fr hK
 refine qp 10 (.func (.func 82) #[.agg #[.pointer (some ⟨a0_reader_b, 0, none⟩)]] #[]) hK fun fr hK => ?_
 refine qo0 hK (s_mapPut Try.underlying115 Try.underlying3 hK.at_ 0 hS rfl (.inl rfl) rfl rfl rfl (by rfl) ?_)
 clear hK fr hS; intro m5 l5 hS fr hK
 replace hS : St _ m m5 [.obj b3 (.map #[⟨.int .i64 1, .func (.func 81) #[.agg #[.pointer (some ⟨a0_reader_b, 0, none⟩)]] #[], 0⟩, ⟨.int .i64 2, .func (.func 82) #[.agg #[.pointer (some ⟨a0_reader_b, 0, none⟩)]] #[], 1⟩] 2), .box b2 #[.int .i64 0, .int .i64 0, .int .i64 0, .int .i64 0, .slice none 0 0] 50, .box b1 #[.pointer (some ⟨a0_reader_b, 0, none⟩)] 61, .box a0_reader_b #[.slice a0_reader_position_b_a a0.reader.position.b.length a0_reader_position_b_c, .int .i64 a0.reader.position.at_, .int .i64 a0.reader.position.fault.code, .int .i64 a0.reader.position.fault.at_] a0_reader_T] := hS
 refine qp 11 (.map (some b3)) hK fun fr hK => ?_
 refine qp 3 (.map (some b3)) hK fun fr hK => ?_
 refine wpList_nil (then_n ?_)
 refine w_seq (w_region ?_)
 refine qp 12 (.pointer (some ⟨b1, 0, none⟩)) hK fun fr hK => ?_
 refine qo 13 hK (s_load hK.at_ hS 2 rfl rfl rfl rfl (by kernel_rfl) ?_)
 clear hK fr; intro fr hK
 replace a0_reader_position_b_f := Els.mono rep_U8 a0_reader_position_b_f (l1.trans (l2.trans (l3.trans (l4.trans l5))))
 obtain ⟨y1, hy1, h⟩ := bind_some h
 replace hS := hS.front 3 rfl
 replace hS : St _ m m5 [.box a0_reader_b #[.slice a0_reader_position_b_a a0.reader.position.b.length a0_reader_position_b_c, .int .i64 a0.reader.position.at_, .int .i64 a0.reader.position.fault.code, .int .i64 a0.reader.position.fault.at_] a0_reader_T, .obj b3 (.map #[⟨.int .i64 1, .func (.func 81) #[.agg #[.pointer (some ⟨a0_reader_b, 0, none⟩)]] #[], 0⟩, ⟨.int .i64 2, .func (.func 82) #[.agg #[.pointer (some ⟨a0_reader_b, 0, none⟩)]] #[], 1⟩] 2), .box b2 #[.int .i64 0, .int .i64 0, .int .i64 0, .int .i64 0, .slice none 0 0] 50, .box b1 #[.pointer (some ⟨a0_reader_b, 0, none⟩)] 61] := hS
 refine qo 14 hK (s_callM (R := [.box a0_reader_b #[.slice a0_reader_position_b_a a0.reader.position.b.length a0_reader_position_b_c, .int .i64 a0.reader.position.at_, .int .i64 a0.reader.position.fault.code, .int .i64 a0.reader.position.fault.at_] a0_reader_T]) (L := [.obj b3 (.map #[⟨.int .i64 1, .func (.func 81) #[.agg #[.pointer (some ⟨a0_reader_b, 0, none⟩)]] #[], 0⟩, ⟨.int .i64 2, .func (.func 82) #[.agg #[.pointer (some ⟨a0_reader_b, 0, none⟩)]] #[], 1⟩] 2), .box b2 #[.int .i64 0, .int .i64 0, .int .i64 0, .int .i64 0, .slice none 0 0] 50, .box b1 #[.pointer (some ⟨a0_reader_b, 0, none⟩)] 61]) hK.at_ hS ent46_1 rfl rfl rfl rfl (G.wire_Reader_At_spec a0_reader_position_b_f hy1 (Ow.left (L := [.box a0_reader_b #[.slice a0_reader_position_b_a a0.reader.position.b.length a0_reader_position_b_c, .int .i64 a0.reader.position.at_, .int .i64 a0.reader.position.fault.code, .int .i64 a0.reader.position.fault.at_] a0_reader_T]) hS.ow)) (by kernel_rfl) ?_)
 clear hK fr hS; rintro _ m6 _ l6 hS ⟨rfl, rfl⟩ fr hK
 replace hS : St _ m m6 [.box a0_reader_b #[.slice a0_reader_position_b_a a0.reader.position.b.length a0_reader_position_b_c, .int .i64 a0.reader.position.at_, .int .i64 a0.reader.position.fault.code, .int .i64 a0.reader.position.fault.at_] a0_reader_T, .obj b3 (.map #[⟨.int .i64 1, .func (.func 81) #[.agg #[.pointer (some ⟨a0_reader_b, 0, none⟩)]] #[], 0⟩, ⟨.int .i64 2, .func (.func 82) #[.agg #[.pointer (some ⟨a0_reader_b, 0, none⟩)]] #[], 1⟩] 2), .box b2 #[.int .i64 0, .int .i64 0, .int .i64 0, .int .i64 0, .slice none 0 0] 50, .box b1 #[.pointer (some ⟨a0_reader_b, 0, none⟩)] 61] := hS
 refine qp 4 (.int .i64 y1) hK fun fr hK => ?_
 refine wpList_nil (then_n ?_)
 refine w_seq (w_region ?_)
 refine qp 15 (.map (some b3)) hK fun fr hK => ?_
 refine qp 16 (.pointer (some ⟨b1, 0, none⟩)) hK fun fr hK => ?_
 refine qo 17 hK (s_load hK.at_ hS 3 rfl rfl rfl rfl (by kernel_rfl) ?_)
 clear hK fr; intro fr hK
 replace a0_reader_position_b_f := Els.mono rep_U8 a0_reader_position_b_f l6
 obtain ⟨y2, hy2, h⟩ := bind_some h
 replace hS : St _ m m6 [.box a0_reader_b #[.slice a0_reader_position_b_a a0.reader.position.b.length a0_reader_position_b_c, .int .i64 a0.reader.position.at_, .int .i64 a0.reader.position.fault.code, .int .i64 a0.reader.position.fault.at_] a0_reader_T, .obj b3 (.map #[⟨.int .i64 1, .func (.func 81) #[.agg #[.pointer (some ⟨a0_reader_b, 0, none⟩)]] #[], 0⟩, ⟨.int .i64 2, .func (.func 82) #[.agg #[.pointer (some ⟨a0_reader_b, 0, none⟩)]] #[], 1⟩] 2), .box b2 #[.int .i64 0, .int .i64 0, .int .i64 0, .int .i64 0, .slice none 0 0] 50, .box b1 #[.pointer (some ⟨a0_reader_b, 0, none⟩)] 61] := hS
 refine qo 18 hK (s_callM (R := [.box a0_reader_b #[.slice a0_reader_position_b_a a0.reader.position.b.length a0_reader_position_b_c, .int .i64 a0.reader.position.at_, .int .i64 a0.reader.position.fault.code, .int .i64 a0.reader.position.fault.at_] a0_reader_T]) (L := [.obj b3 (.map #[⟨.int .i64 1, .func (.func 81) #[.agg #[.pointer (some ⟨a0_reader_b, 0, none⟩)]] #[], 0⟩, ⟨.int .i64 2, .func (.func 82) #[.agg #[.pointer (some ⟨a0_reader_b, 0, none⟩)]] #[], 1⟩] 2), .box b2 #[.int .i64 0, .int .i64 0, .int .i64 0, .int .i64 0, .slice none 0 0] 50, .box b1 #[.pointer (some ⟨a0_reader_b, 0, none⟩)] 61]) hK.at_ hS ent39_1 rfl rfl rfl rfl (G.wire_Reader_Uint_spec a0_reader_position_b_f hy2 (Ow.left (L := [.box a0_reader_b #[.slice a0_reader_position_b_a a0.reader.position.b.length a0_reader_position_b_c, .int .i64 a0.reader.position.at_, .int .i64 a0.reader.position.fault.code, .int .i64 a0.reader.position.fault.at_] a0_reader_T]) hS.ow)) (by kernel_rfl) ?_)
 clear hK fr hS; rintro _ m7 _ l7 hS ⟨rfl, rfl, c2re0⟩ fr hK
 replace hS : St _ m m7 [.box a0_reader_b #[.slice a0_reader_position_b_a y2.2.position.b.length a0_reader_position_b_c, .int .i64 y2.2.position.at_, .int .i64 y2.2.position.fault.code, .int .i64 y2.2.position.fault.at_] a0_reader_T, .obj b3 (.map #[⟨.int .i64 1, .func (.func 81) #[.agg #[.pointer (some ⟨a0_reader_b, 0, none⟩)]] #[], 0⟩, ⟨.int .i64 2, .func (.func 82) #[.agg #[.pointer (some ⟨a0_reader_b, 0, none⟩)]] #[], 1⟩] 2), .box b2 #[.int .i64 0, .int .i64 0, .int .i64 0, .int .i64 0, .slice none 0 0] 50, .box b1 #[.pointer (some ⟨a0_reader_b, 0, none⟩)] 61] := hS
 refine qp 19 (.int .i64 (IntKind.i64.wrap y2.1)) hK fun fr hK => ?_
 refine split_b (x := ((IntKind.i64.wrap y2.1) == 1)) (fun hb1 => ?_) (fun hb1 => ?_)
 ·
  replace h := ite_t (eq_of_beq hb1) h
  refine qo 20 hK (s_lookup (i := 0) (v := .func (.func 81) #[.agg #[.pointer (some ⟨a0_reader_b, 0, none⟩)]] #[]) Try.underlying115 Try.underlying3 hK.at_ 1 hS rfl rfl rfl rfl (by simp [Instr.findNow, Instr.sameNow, hb1]) ?_)
  clear hK fr; intro fr hK
  refine qp 5 (.func (.func 81) #[.agg #[.pointer (some ⟨a0_reader_b, 0, none⟩)]] #[]) hK fun fr hK => ?_
  refine wpList_nil (then_n ?_)
  refine w_seq ?_
  refine w_seq (w_region ?_)
  refine qp 21 (.func (.func 81) #[.agg #[.pointer (some ⟨a0_reader_b, 0, none⟩)]] #[]) hK fun fr hK => ?_
  refine qp 22 (.bool false) hK fun fr hK => ?_
  refine wpList_nil (then_n ?_)
  refine w_cond_f hK rfl ?_
  refine wp_skip ?_
  refine then_n ?_
  refine w_seq (w_region ?_)
  refine qp 28 (.func (.func 81) #[.agg #[.pointer (some ⟨a0_reader_b, 0, none⟩)]] #[]) hK fun fr hK => ?_
  replace a0_reader_position_b_f := Els.mono rep_U8 a0_reader_position_b_f l7
  have f1 : Els isU8 m7 1 a0_reader_position_b_a a0_reader_position_b_c y2.2.position.b := Els.cast c2re0.symm a0_reader_position_b_f
  obtain ⟨y3, hy3, h⟩ := bind_some h
  replace hS : St _ m m7 [.box a0_reader_b #[.slice a0_reader_position_b_a y2.2.position.b.length a0_reader_position_b_c, .int .i64 y2.2.position.at_, .int .i64 y2.2.position.fault.code, .int .i64 y2.2.position.fault.at_] a0_reader_T, .obj b3 (.map #[⟨.int .i64 1, .func (.func 81) #[.agg #[.pointer (some ⟨a0_reader_b, 0, none⟩)]] #[], 0⟩, ⟨.int .i64 2, .func (.func 82) #[.agg #[.pointer (some ⟨a0_reader_b, 0, none⟩)]] #[], 1⟩] 2), .box b2 #[.int .i64 0, .int .i64 0, .int .i64 0, .int .i64 0, .slice none 0 0] 50, .box b1 #[.pointer (some ⟨a0_reader_b, 0, none⟩)] 61] := hS
  refine qo 29 hK (s_callM (R := [.box a0_reader_b #[.slice a0_reader_position_b_a y2.2.position.b.length a0_reader_position_b_c, .int .i64 y2.2.position.at_, .int .i64 y2.2.position.fault.code, .int .i64 y2.2.position.fault.at_] a0_reader_T]) (L := [.obj b3 (.map #[⟨.int .i64 1, .func (.func 81) #[.agg #[.pointer (some ⟨a0_reader_b, 0, none⟩)]] #[], 0⟩, ⟨.int .i64 2, .func (.func 82) #[.agg #[.pointer (some ⟨a0_reader_b, 0, none⟩)]] #[], 1⟩] 2), .box b2 #[.int .i64 0, .int .i64 0, .int .i64 0, .int .i64 0, .slice none 0 0] 50, .box b1 #[.pointer (some ⟨a0_reader_b, 0, none⟩)] 61]) hK.at_ hS ent81_1 rfl rfl rfl rfl (G.format_decoder_copying_spec f1 hy3 (Ow.left (L := [.box a0_reader_b #[.slice a0_reader_position_b_a y2.2.position.b.length a0_reader_position_b_c, .int .i64 y2.2.position.at_, .int .i64 y2.2.position.fault.code, .int .i64 y2.2.position.fault.at_] a0_reader_T]) hS.ow)) (by kernel_rfl) ?_)
  clear hK fr hS; rintro _ m8 _ l8 hS ⟨c3r0_data_a, c3r0_data_c, rfl, rfl, c3r0_data_f, c3re0⟩ fr hK
  refine qo0 hK (s_storeAll hK.at_ 2 hS rfl rfl rfl rfl (by kernel_rfl) (by kernel_rfl) (by kernel_rfl) ?_)
  clear hK fr hS; intro m9 l9 hS fr hK
  replace hS : St _ m m9 [.box b2 #[.int .i64 y3.1.kind, .int .i64 y3.1.to, .int .i64 y3.1.from_, .int .i64 y3.1.len, .slice c3r0_data_a y3.1.data.length c3r0_data_c] 50, .box a0_reader_b #[.slice a0_reader_position_b_a y3.2.position.b.length a0_reader_position_b_c, .int .i64 y3.2.position.at_, .int .i64 y3.2.position.fault.code, .int .i64 y3.2.position.fault.at_] a0_reader_T, .obj b3 (.map #[⟨.int .i64 1, .func (.func 81) #[.agg #[.pointer (some ⟨a0_reader_b, 0, none⟩)]] #[], 0⟩, ⟨.int .i64 2, .func (.func 82) #[.agg #[.pointer (some ⟨a0_reader_b, 0, none⟩)]] #[], 1⟩] 2), .box b1 #[.pointer (some ⟨a0_reader_b, 0, none⟩)] 61] := hS
  refine wpList_nil (then_n ?_)
  refine wp_ret ?_
  replace f1 := Els.mono rep_U8 f1 (l8.trans l9)
  have f2 : Els isU8 m9 1 a0_reader_position_b_a a0_reader_position_b_c y3.2.position.b := Els.cast c3re0.symm f1
  replace c3r0_data_f := Els.mono rep_U8 c3r0_data_f l9
  replace h := Option.some.inj h; subst h
  replace hS := hS.front 1 rfl
  replace hS : St _ m m9 [.box a0_reader_b #[.slice a0_reader_position_b_a y3.2.position.b.length a0_reader_position_b_c, .int .i64 y3.2.position.at_, .int .i64 y3.2.position.fault.code, .int .i64 y3.2.position.fault.at_] a0_reader_T, .box b2 #[.int .i64 y3.1.kind, .int .i64 y3.1.to, .int .i64 y3.1.from_, .int .i64 y3.1.len, .slice c3r0_data_a y3.1.data.length c3r0_data_c] 50, .obj b3 (.map #[⟨.int .i64 1, .func (.func 81) #[.agg #[.pointer (some ⟨a0_reader_b, 0, none⟩)]] #[], 0⟩, ⟨.int .i64 2, .func (.func 82) #[.agg #[.pointer (some ⟨a0_reader_b, 0, none⟩)]] #[], 1⟩] 2), .box b1 #[.pointer (some ⟨a0_reader_b, 0, none⟩)] 61] := hS
  refine ret_of [.cell 2 50] [.agg #[.int .i64 y3.1.kind, .int .i64 y3.1.to, .int .i64 y3.1.from_, .int .i64 y3.1.len, .slice c3r0_data_a y3.1.data.length c3r0_data_c]] rfl hK (ResL.box hS 1 rfl rfl (by kernel_rfl) .nil) (St.keep (L := [.box a0_reader_b #[.slice a0_reader_position_b_a y3.2.position.b.length a0_reader_position_b_c, .int .i64 y3.2.position.at_, .int .i64 y3.2.position.fault.code, .int .i64 y3.2.position.fault.at_] a0_reader_T]) (R := [.box b2 #[.int .i64 y3.1.kind, .int .i64 y3.1.to, .int .i64 y3.1.from_, .int .i64 y3.1.len, .slice c3r0_data_a y3.1.data.length c3r0_data_c] 50, .obj b3 (.map #[⟨.int .i64 1, .func (.func 81) #[.agg #[.pointer (some ⟨a0_reader_b, 0, none⟩)]] #[], 0⟩, ⟨.int .i64 2, .func (.func 82) #[.agg #[.pointer (some ⟨a0_reader_b, 0, none⟩)]] #[], 1⟩] 2), .box b1 #[.pointer (some ⟨a0_reader_b, 0, none⟩)] 61]) hS) ?_
  exact ⟨c3r0_data_a, c3r0_data_c, rfl, rfl, c3r0_data_f, (c3re0.trans c2re0)⟩
 ·
  replace h := ite_f (ne_of_beq_false hb1) h
  refine split_b (x := ((IntKind.i64.wrap y2.1) == 2)) (fun hb2 => ?_) (fun hb2 => ?_)
  ·
   replace h := ite_t (eq_of_beq hb2) h
   refine qo 20 hK (s_lookup (i := 1) (v := .func (.func 82) #[.agg #[.pointer (some ⟨a0_reader_b, 0, none⟩)]] #[]) Try.underlying115 Try.underlying3 hK.at_ 1 hS rfl rfl rfl rfl (by simp [Instr.findNow, Instr.sameNow, hb1, hb2]) ?_)
   clear hK fr; intro fr hK
   refine qp 5 (.func (.func 82) #[.agg #[.pointer (some ⟨a0_reader_b, 0, none⟩)]] #[]) hK fun fr hK => ?_
   refine wpList_nil (then_n ?_)
   refine w_seq ?_
   refine w_seq (w_region ?_)
   refine qp 21 (.func (.func 82) #[.agg #[.pointer (some ⟨a0_reader_b, 0, none⟩)]] #[]) hK fun fr hK => ?_
   refine qp 22 (.bool false) hK fun fr hK => ?_
   refine wpList_nil (then_n ?_)
   refine w_cond_f hK rfl ?_
   refine wp_skip ?_
   refine then_n ?_
   refine w_seq (w_region ?_)
   refine qp 28 (.func (.func 82) #[.agg #[.pointer (some ⟨a0_reader_b, 0, none⟩)]] #[]) hK fun fr hK => ?_
   replace a0_reader_position_b_f := Els.mono rep_U8 a0_reader_position_b_f l7
   have f1 : Els isU8 m7 1 a0_reader_position_b_a a0_reader_position_b_c y2.2.position.b := Els.cast c2re0.symm a0_reader_position_b_f
   obtain ⟨y4, hy4, h⟩ := bind_some h
   replace hS : St _ m m7 [.box a0_reader_b #[.slice a0_reader_position_b_a y2.2.position.b.length a0_reader_position_b_c, .int .i64 y2.2.position.at_, .int .i64 y2.2.position.fault.code, .int .i64 y2.2.position.fault.at_] a0_reader_T, .obj b3 (.map #[⟨.int .i64 1, .func (.func 81) #[.agg #[.pointer (some ⟨a0_reader_b, 0, none⟩)]] #[], 0⟩, ⟨.int .i64 2, .func (.func 82) #[.agg #[.pointer (some ⟨a0_reader_b, 0, none⟩)]] #[], 1⟩] 2), .box b2 #[.int .i64 0, .int .i64 0, .int .i64 0, .int .i64 0, .slice none 0 0] 50, .box b1 #[.pointer (some ⟨a0_reader_b, 0, none⟩)] 61] := hS
   refine qo 29 hK (s_callM (R := [.box a0_reader_b #[.slice a0_reader_position_b_a y2.2.position.b.length a0_reader_position_b_c, .int .i64 y2.2.position.at_, .int .i64 y2.2.position.fault.code, .int .i64 y2.2.position.fault.at_] a0_reader_T]) (L := [.obj b3 (.map #[⟨.int .i64 1, .func (.func 81) #[.agg #[.pointer (some ⟨a0_reader_b, 0, none⟩)]] #[], 0⟩, ⟨.int .i64 2, .func (.func 82) #[.agg #[.pointer (some ⟨a0_reader_b, 0, none⟩)]] #[], 1⟩] 2), .box b2 #[.int .i64 0, .int .i64 0, .int .i64 0, .int .i64 0, .slice none 0 0] 50, .box b1 #[.pointer (some ⟨a0_reader_b, 0, none⟩)] 61]) hK.at_ hS ent82_1 rfl rfl rfl rfl (G.format_decoder_literal_spec f1 hy4 (Ow.left (L := [.box a0_reader_b #[.slice a0_reader_position_b_a y2.2.position.b.length a0_reader_position_b_c, .int .i64 y2.2.position.at_, .int .i64 y2.2.position.fault.code, .int .i64 y2.2.position.fault.at_] a0_reader_T]) hS.ow)) (by kernel_rfl) ?_)
   clear hK fr hS; rintro _ m10 _ l10 hS ⟨c4r0_data_g, c4r0_data_c, rfl, rfl, c4r0_data_f, c4re0⟩ fr hK
   refine qo0 hK (s_storeAll hK.at_ 3 hS rfl rfl rfl rfl (by kernel_rfl) (by kernel_rfl) (by kernel_rfl) ?_)
   clear hK fr hS; intro m11 l11 hS fr hK
   replace hS : St _ m m11 [.box b2 #[.int .i64 y4.1.kind, .int .i64 y4.1.to, .int .i64 y4.1.from_, .int .i64 y4.1.len, .slice (adr c4r0_data_g) y4.1.data.length c4r0_data_c] 50, .box a0_reader_b #[.slice a0_reader_position_b_a y4.2.position.b.length a0_reader_position_b_c, .int .i64 y4.2.position.at_, .int .i64 y4.2.position.fault.code, .int .i64 y4.2.position.fault.at_] a0_reader_T, rowOf 5 1 c4r0_data_g c4r0_data_c y4.1.data, .obj b3 (.map #[⟨.int .i64 1, .func (.func 81) #[.agg #[.pointer (some ⟨a0_reader_b, 0, none⟩)]] #[], 0⟩, ⟨.int .i64 2, .func (.func 82) #[.agg #[.pointer (some ⟨a0_reader_b, 0, none⟩)]] #[], 1⟩] 2), .box b1 #[.pointer (some ⟨a0_reader_b, 0, none⟩)] 61] := hS
   refine wpList_nil (then_n ?_)
   refine wp_ret ?_
   replace f1 := Els.mono rep_U8 f1 (l10.trans l11)
   have f3 : Els isU8 m11 1 a0_reader_position_b_a a0_reader_position_b_c y4.2.position.b := Els.cast c4re0.symm f1
   replace c4r0_data_f := Els.mono rep_U8 c4r0_data_f l11
   replace h := Option.some.inj h; subst h
   replace hS := hS.front 1 rfl
   replace hS : St _ m m11 [.box a0_reader_b #[.slice a0_reader_position_b_a y4.2.position.b.length a0_reader_position_b_c, .int .i64 y4.2.position.at_, .int .i64 y4.2.position.fault.code, .int .i64 y4.2.position.fault.at_] a0_reader_T, .box b2 #[.int .i64 y4.1.kind, .int .i64 y4.1.to, .int .i64 y4.1.from_, .int .i64 y4.1.len, .slice (adr c4r0_data_g) y4.1.data.length c4r0_data_c] 50, rowOf 5 1 c4r0_data_g c4r0_data_c y4.1.data, .obj b3 (.map #[⟨.int .i64 1, .func (.func 81) #[.agg #[.pointer (some ⟨a0_reader_b, 0, none⟩)]] #[], 0⟩, ⟨.int .i64 2, .func (.func 82) #[.agg #[.pointer (some ⟨a0_reader_b, 0, none⟩)]] #[], 1⟩] 2), .box b1 #[.pointer (some ⟨a0_reader_b, 0, none⟩)] 61] := hS
   refine ret_of [.cell 2 50] [.agg #[.int .i64 y4.1.kind, .int .i64 y4.1.to, .int .i64 y4.1.from_, .int .i64 y4.1.len, .slice (adr c4r0_data_g) y4.1.data.length c4r0_data_c]] rfl hK (ResL.box hS 1 rfl rfl (by kernel_rfl) .nil) (St.keep (L := [.box a0_reader_b #[.slice a0_reader_position_b_a y4.2.position.b.length a0_reader_position_b_c, .int .i64 y4.2.position.at_, .int .i64 y4.2.position.fault.code, .int .i64 y4.2.position.fault.at_] a0_reader_T]) (R := [.box b2 #[.int .i64 y4.1.kind, .int .i64 y4.1.to, .int .i64 y4.1.from_, .int .i64 y4.1.len, .slice (adr c4r0_data_g) y4.1.data.length c4r0_data_c] 50, rowOf 5 1 c4r0_data_g c4r0_data_c y4.1.data, .obj b3 (.map #[⟨.int .i64 1, .func (.func 81) #[.agg #[.pointer (some ⟨a0_reader_b, 0, none⟩)]] #[], 0⟩, ⟨.int .i64 2, .func (.func 82) #[.agg #[.pointer (some ⟨a0_reader_b, 0, none⟩)]] #[], 1⟩] 2), .box b1 #[.pointer (some ⟨a0_reader_b, 0, none⟩)] 61]) hS) ?_
   exact ⟨(adr c4r0_data_g), c4r0_data_c, rfl, rfl, c4r0_data_f, (c4re0.trans c2re0)⟩
  ·
   replace h := ite_f (ne_of_beq_false hb2) h
   refine qo 20 hK (s_lookupNo (.nilFunc) Try.underlying115 Try.underlying3 (by kernel_rfl) hK.at_ 1 hS rfl rfl rfl rfl (by simp [Instr.findNow, Instr.sameNow, hb1, hb2]) ?_)
   clear hK fr; intro fr hK
   refine qp 5 (.nilFunc) hK fun fr hK => ?_
   refine wpList_nil (then_n ?_)
   refine w_seq ?_
   refine w_seq (w_region ?_)
   refine qp 21 (.nilFunc) hK fun fr hK => ?_
   refine qp 22 (.bool true) hK fun fr hK => ?_
   refine wpList_nil (then_n ?_)
   refine w_cond_t hK rfl ?_
   refine w_seq (w_region ?_)
   refine qp 23 (.pointer (some ⟨b1, 0, none⟩)) hK fun fr hK => ?_
   refine qo 24 hK (s_load hK.at_ hS 3 rfl rfl rfl rfl (by kernel_rfl) ?_)
   clear hK fr; intro fr hK
   refine qp 25 (.int .i64 y1) hK fun fr hK => ?_
   replace a0_reader_position_b_f := Els.mono rep_U8 a0_reader_position_b_f l7
   have f1 : Els isU8 m7 1 a0_reader_position_b_a a0_reader_position_b_c y2.2.position.b := Els.cast c2re0.symm a0_reader_position_b_f
   obtain ⟨y5, hy5, h⟩ := bind_some h
   replace hS : St _ m m7 [.box a0_reader_b #[.slice a0_reader_position_b_a y2.2.position.b.length a0_reader_position_b_c, .int .i64 y2.2.position.at_, .int .i64 y2.2.position.fault.code, .int .i64 y2.2.position.fault.at_] a0_reader_T, .obj b3 (.map #[⟨.int .i64 1, .func (.func 81) #[.agg #[.pointer (some ⟨a0_reader_b, 0, none⟩)]] #[], 0⟩, ⟨.int .i64 2, .func (.func 82) #[.agg #[.pointer (some ⟨a0_reader_b, 0, none⟩)]] #[], 1⟩] 2), .box b2 #[.int .i64 0, .int .i64 0, .int .i64 0, .int .i64 0, .slice none 0 0] 50, .box b1 #[.pointer (some ⟨a0_reader_b, 0, none⟩)] 61] := hS
   refine qo 26 hK (s_callM (R := [.box a0_reader_b #[.slice a0_reader_position_b_a y2.2.position.b.length a0_reader_position_b_c, .int .i64 y2.2.position.at_, .int .i64 y2.2.position.fault.code, .int .i64 y2.2.position.fault.at_] a0_reader_T]) (L := [.obj b3 (.map #[⟨.int .i64 1, .func (.func 81) #[.agg #[.pointer (some ⟨a0_reader_b, 0, none⟩)]] #[], 0⟩, ⟨.int .i64 2, .func (.func 82) #[.agg #[.pointer (some ⟨a0_reader_b, 0, none⟩)]] #[], 1⟩] 2), .box b2 #[.int .i64 0, .int .i64 0, .int .i64 0, .int .i64 0, .slice none 0 0] 50, .box b1 #[.pointer (some ⟨a0_reader_b, 0, none⟩)] 61]) hK.at_ hS ent40_1 rfl rfl rfl rfl (G.wire_Reader_Fail_spec f1 hy5 (Ow.left (L := [.box a0_reader_b #[.slice a0_reader_position_b_a y2.2.position.b.length a0_reader_position_b_c, .int .i64 y2.2.position.at_, .int .i64 y2.2.position.fault.code, .int .i64 y2.2.position.fault.at_] a0_reader_T]) hS.ow)) (by kernel_rfl) ?_)
   clear hK fr hS; rintro _ m12 _ l12 hS ⟨rfl, rfl, c5re0⟩ fr hK
   replace hS : St _ m m12 [.box a0_reader_b #[.slice a0_reader_position_b_a y5.position.b.length a0_reader_position_b_c, .int .i64 y5.position.at_, .int .i64 y5.position.fault.code, .int .i64 y5.position.fault.at_] a0_reader_T, .obj b3 (.map #[⟨.int .i64 1, .func (.func 81) #[.agg #[.pointer (some ⟨a0_reader_b, 0, none⟩)]] #[], 0⟩, ⟨.int .i64 2, .func (.func 82) #[.agg #[.pointer (some ⟨a0_reader_b, 0, none⟩)]] #[], 1⟩] 2), .box b2 #[.int .i64 0, .int .i64 0, .int .i64 0, .int .i64 0, .slice none 0 0] 50, .box b1 #[.pointer (some ⟨a0_reader_b, 0, none⟩)] 61] := hS
   refine wpList_nil (then_n ?_)
   refine w_seq (w_region ?_)
   refine qp 27 (.agg #[.int .i64 0, .int .i64 0, .int .i64 0, .int .i64 0, .slice none 0 0]) hK fun fr hK => ?_
   refine qo0 hK (s_storeAll hK.at_ 2 hS rfl rfl rfl rfl (by kernel_rfl) (by kernel_rfl) (by kernel_rfl) ?_)
   clear hK fr hS; intro m13 l13 hS fr hK
   replace hS : St _ m m13 [.box b2 #[.int .i64 0, .int .i64 0, .int .i64 0, .int .i64 0, .slice none 0 0] 50, .box a0_reader_b #[.slice a0_reader_position_b_a y5.position.b.length a0_reader_position_b_c, .int .i64 y5.position.at_, .int .i64 y5.position.fault.code, .int .i64 y5.position.fault.at_] a0_reader_T, .obj b3 (.map #[⟨.int .i64 1, .func (.func 81) #[.agg #[.pointer (some ⟨a0_reader_b, 0, none⟩)]] #[], 0⟩, ⟨.int .i64 2, .func (.func 82) #[.agg #[.pointer (some ⟨a0_reader_b, 0, none⟩)]] #[], 1⟩] 2), .box b1 #[.pointer (some ⟨a0_reader_b, 0, none⟩)] 61] := hS
   refine wpList_nil (then_n ?_)
   refine wp_ret ?_
   refine then_r ?_
   replace f1 := Els.mono rep_U8 f1 (l12.trans l13)
   have f4 : Els isU8 m13 1 a0_reader_position_b_a a0_reader_position_b_c y5.position.b := Els.cast c5re0.symm f1
   replace h := Option.some.inj h; subst h
   replace hS := hS.front 1 rfl
   replace hS : St _ m m13 [.box a0_reader_b #[.slice a0_reader_position_b_a y5.position.b.length a0_reader_position_b_c, .int .i64 y5.position.at_, .int .i64 y5.position.fault.code, .int .i64 y5.position.fault.at_] a0_reader_T, .box b2 #[.int .i64 0, .int .i64 0, .int .i64 0, .int .i64 0, .slice none 0 0] 50, .obj b3 (.map #[⟨.int .i64 1, .func (.func 81) #[.agg #[.pointer (some ⟨a0_reader_b, 0, none⟩)]] #[], 0⟩, ⟨.int .i64 2, .func (.func 82) #[.agg #[.pointer (some ⟨a0_reader_b, 0, none⟩)]] #[], 1⟩] 2), .box b1 #[.pointer (some ⟨a0_reader_b, 0, none⟩)] 61] := hS
   refine ret_of [.cell 2 50] [.agg #[.int .i64 0, .int .i64 0, .int .i64 0, .int .i64 0, .slice none 0 0]] rfl hK (ResL.box hS 1 rfl rfl (by kernel_rfl) .nil) (St.keep (L := [.box a0_reader_b #[.slice a0_reader_position_b_a y5.position.b.length a0_reader_position_b_c, .int .i64 y5.position.at_, .int .i64 y5.position.fault.code, .int .i64 y5.position.fault.at_] a0_reader_T]) (R := [.box b2 #[.int .i64 0, .int .i64 0, .int .i64 0, .int .i64 0, .slice none 0 0] 50, .obj b3 (.map #[⟨.int .i64 1, .func (.func 81) #[.agg #[.pointer (some ⟨a0_reader_b, 0, none⟩)]] #[], 0⟩, ⟨.int .i64 2, .func (.func 82) #[.agg #[.pointer (some ⟨a0_reader_b, 0, none⟩)]] #[], 1⟩] 2), .box b1 #[.pointer (some ⟨a0_reader_b, 0, none⟩)] 61]) hS) ?_
   exact ⟨none, 0, rfl, rfl, (Els.nil _ _), (c5re0.trans c2re0)⟩
set_option maxRecDepth 100000 in
set_option maxHeartbeats 1000000 in
theorem G.wire_Reader_Rest_spec {m : Mem} {a0 : G.wire_Reader} {a0_b : Nat} {a0_position_b_a : Option Addr} {a0_position_b_c : Nat} {a0_T : TypeId} (a0_position_b_f : Els isU8 m 1 a0_position_b_a a0_position_b_c a0.position.b) {r : Int} (h : G.wire_Reader_Rest a0 = some r) (hO : Ow m [.box a0_b #[.slice a0_position_b_a a0.position.b.length a0_position_b_c, .int .i64 a0.position.at_, .int .i64 a0.position.fault.code, .int .i64 a0.position.fault.at_] a0_T]) :
  Spec Try.prog 45 #[.pointer (some ⟨a0_b, 0, none⟩)] m [.box a0_b #[.slice a0_position_b_a a0.position.b.length a0_position_b_c, .int .i64 a0.position.at_, .int .i64 a0.position.fault.code, .int .i64 a0.position.fault.at_] a0_T] fun v m' L => L = [.box a0_b #[.slice a0_position_b_a a0.position.b.length a0_position_b_c, .int .i64 a0.position.at_, .int .i64 a0.position.fault.code, .int .i64 a0.position.fault.at_] a0_T] ∧ v = .int .i64 r := by
 unfold G.wire_Reader_Rest at h
 refine enter (args := [_]) 17 Try.func45 rfl rfl (by simp) fun fr hK => ?_
 have hS := St.refl (hO)
 replace hK : Kn 17 fr [(0, .pointer (some ⟨a0_b, 0, none⟩))] := hK
 refine w_seq (w_region ?_)
 refine qp 2 (.int .i64 0) hK fun fr hK => ?_
 refine wpList_nil (then_n ?_)
 refine w_seq ?_
 refine w_seq (w_region ?_)
 refine qp 3 (.pointer (some ⟨a0_b, 0, none⟩)) hK fun fr hK => ?_
 refine qp 4 (.bool false) hK fun fr hK => ?_
 refine wpList_nil (then_n ?_)
 refine w_cond_f hK rfl ?_
 refine wp_skip ?_
 refine then_n ?_
 refine w_seq ?_
 have hlt0 : ∀ bq ∈ blocksOf [.box a0_b #[.slice a0_position_b_a a0.position.b.length a0_position_b_c, .int .i64 a0.position.at_, .int .i64 a0.position.fault.code, .int .i64 a0.position.fault.at_] a0_T], bq < m.w.heap.size := fun bq hbq => hS.ow.lt hbq
 refine D.wp_draw (Gr := D.GO m none) (S := D.SO none (blocksOf [.box a0_b #[.slice a0_position_b_a a0.position.b.length a0_position_b_c, .int .i64 a0.position.at_, .int .i64 a0.position.fault.code, .int .i64 a0.position.fault.at_] a0_T]) m m (fun _ => [.box a0_b #[.slice a0_position_b_a a0.position.b.length a0_position_b_c, .int .i64 a0.position.at_, .int .i64 a0.position.fault.code, .int .i64 a0.position.fault.at_] a0_T]) (fun _ => True)) (N := 0) 11 [] [([(0, none)], 0, 0, false), ([(5, some 0)], 0, 0, false), ([(6, some 0)], 0, 0, false), ([(7, some 0)], 0, 0, false), ([(8, some 0)], 0, 0, false), ([(9, some 0)], 0, 0, false), ([(0, none)], 0, 0, false), ([(11, some 0)], 0, 0, false), ([(12, some 0)], 0, 0, false), ([(13, some 0)], 0, 0, false), ([(14, some 0)], 0, 0, false)] hK.size (by kernel_rfl) (by kernel_rfl) (by kernel_rfl) rfl (D.startO hS trivial) ?_
 refine D.on_pure (D.GO_refl _ _) [(0, .pointer (some ⟨a0_b, 0, none⟩))] (.pointer (some ⟨a0_b, 0, none⟩)) (fun ac ww hk => (.cons (hk.1.trans (hK.at_ 0 _ rfl)) (.nil _))) ?_
 refine D.on_pure (D.GO_refl _ _) [(5, .pointer (some ⟨a0_b, 0, none⟩))] (.pointer (some ⟨a0_b, 0, none⟩)) (fun ac ww hk => (.cons (hk.1) (.nil _))) ?_
 refine D.on_pure (D.GO_refl _ _) [(6, .pointer (some ⟨a0_b, 0, none⟩))] (.pointer (some ⟨a0_b, 0, none⟩)) (fun ac ww hk => (.cons (hk.1) (.nil _))) ?_
 refine D.on_pure (D.GO_refl _ _) [(7, .pointer (some ⟨a0_b, 0, none⟩))] (.pointer (some ⟨a0_b, 0, none⟩)) (fun ac ww hk => (.cons (hk.1) (.nil _))) ?_
 refine D.on_det (D.GO_refl _ _) [(8, .pointer (some ⟨a0_b, 0, none⟩))] (.slice a0_position_b_a a0.position.b.length a0_position_b_c) (fun ac ww hk => (.cons (hk.1) (.nil _))) (fun ac ww kk hb hKe Post hp => (fun hS => s_load hKe hS 0 rfl rfl rfl rfl (by kernel_rfl) hp) hb.2.1) ?_
 refine D.on_pure (D.GO_refl _ _) [(9, .slice a0_position_b_a a0.position.b.length a0_position_b_c)] (.int .i64 (a0.position.b.length : Int)) (fun ac ww hk => (.cons (hk.1) (.nil _))) ?_
 refine D.on_pure (D.GO_refl _ _) [(0, .pointer (some ⟨a0_b, 0, none⟩))] (.pointer (some ⟨a0_b, 0, none⟩)) (fun ac ww hk => (.cons (hk.1.trans (hK.at_ 0 _ rfl)) (.nil _))) ?_
 refine D.on_pure (D.GO_refl _ _) [(11, .pointer (some ⟨a0_b, 0, none⟩))] (.pointer (some ⟨a0_b, 0, none⟩)) (fun ac ww hk => (.cons (hk.1) (.nil _))) ?_
 refine D.on_pure (D.GO_refl _ _) [(12, .pointer (some ⟨a0_b, 0, none⟩))] (.pointer (some ⟨a0_b, 0, none⟩)) (fun ac ww hk => (.cons (hk.1) (.nil _))) ?_
 refine D.on_pure (D.GO_refl _ _) [(13, .pointer (some ⟨a0_b, 0, none⟩))] (.pointer (some ⟨a0_b, 1, none⟩)) (fun ac ww hk => (.cons (hk.1) (.nil _))) ?_
 refine D.on_det (D.GO_refl _ _) [(14, .pointer (some ⟨a0_b, 1, none⟩))] (.int .i64 a0.position.at_) (fun ac ww hk => (.cons (hk.1) (.nil _))) (fun ac ww kk hb hKe Post hp => (fun hS => s_load hKe hS 0 rfl rfl rfl rfl (by kernel_rfl) hp) hb.2.1) ?_
 refine D.finO ?_
 intro fr2 m1 hm1 l1 hS2 hF2 hE
 replace hS2 : St _ m m1 [.box a0_b #[.slice a0_position_b_a a0.position.b.length a0_position_b_c, .int .i64 a0.position.at_, .int .i64 a0.position.fault.code, .int .i64 a0.position.fault.at_] a0_T] := hS2
 have hK2 := D.kn_ends [(5, .pointer (some ⟨a0_b, 0, none⟩)), (6, .pointer (some ⟨a0_b, 0, none⟩)), (7, .pointer (some ⟨a0_b, 0, none⟩)), (8, .pointer (some ⟨a0_b, 0, none⟩)), (9, .slice a0_position_b_a a0.position.b.length a0_position_b_c), (10, .int .i64 (a0.position.b.length : Int)), (11, .pointer (some ⟨a0_b, 0, none⟩)), (12, .pointer (some ⟨a0_b, 0, none⟩)), (13, .pointer (some ⟨a0_b, 0, none⟩)), (14, .pointer (some ⟨a0_b, 1, none⟩)), (15, .int .i64 a0.position.at_)] hK hE rfl (by kernel_rfl) (.cons (hE.slots 5) (.cons (hE.slots 6) (.cons (hE.slots 7) (.cons (hE.slots 8) (.cons (hE.slots 9) (.cons (hE.slots 10) (.cons (hE.slots 11) (.cons (hE.slots 12) (.cons (hE.slots 13) (.cons (hE.slots 14) (.cons (hE.slots 15) (.nil _))))))))))))
 replace hK2 : Kn 17 fr2 [(5, .pointer (some ⟨a0_b, 0, none⟩)), (6, .pointer (some ⟨a0_b, 0, none⟩)), (7, .pointer (some ⟨a0_b, 0, none⟩)), (8, .pointer (some ⟨a0_b, 0, none⟩)), (9, .slice a0_position_b_a a0.position.b.length a0_position_b_c), (10, .int .i64 (a0.position.b.length : Int)), (11, .pointer (some ⟨a0_b, 0, none⟩)), (12, .pointer (some ⟨a0_b, 0, none⟩)), (13, .pointer (some ⟨a0_b, 0, none⟩)), (14, .pointer (some ⟨a0_b, 1, none⟩)), (15, .int .i64 a0.position.at_), (4, .bool false), (3, .pointer (some ⟨a0_b, 0, none⟩)), (2, .int .i64 0), (0, .pointer (some ⟨a0_b, 0, none⟩))] := hK2.only [5, 6, 7, 8, 9, 10, 11, 12, 13, 14, 15, 4, 3, 2, 0]
 clear hE hK; revert hK2; clear hm1 hS hlt0; revert fr2; clear fr; intro fr hK; have hS := hS2; clear hS2
 replace hS : St _ m m1 [.box a0_b #[.slice a0_position_b_a a0.position.b.length a0_position_b_c, .int .i64 a0.position.at_, .int .i64 a0.position.fault.code, .int .i64 a0.position.fault.at_] a0_T] := hS
 refine qp 16 (.int .i64 (IntKind.i64.wrap ((a0.position.b.length : Int) - a0.position.at_))) hK fun fr hK => ?_
 refine qp 2 (.int .i64 (IntKind.i64.wrap ((a0.position.b.length : Int) - a0.position.at_))) hK fun fr hK => ?_
 refine wpList_nil (then_n ?_)
 refine wp_ret ?_
 replace h := Option.some.inj h; subst h
 replace hS : St _ m m1 [.box a0_b #[.slice a0_position_b_a a0.position.b.length a0_position_b_c, .int .i64 a0.position.at_, .int .i64 a0.position.fault.code, .int .i64 a0.position.fault.at_] a0_T] := hS
 refine ret_of [.tmp 2] [.int .i64 (IntKind.i64.wrap ((a0.position.b.length : Int) - a0.position.at_))] rfl hK (.tmp rfl .nil) hS ?_
 exact ⟨rfl, rfl⟩
end Go.Proofs.Ytkalbidbhaalmaa
