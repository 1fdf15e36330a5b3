/- The program computes the plain functions: graftlaw07_FormatOnce. Printed by a program. -/
import Derived.Test.YtkalbidbhaalmaaProg
import Derived.Test.YtkalbidbhaalmaaGs
import Derived.Test.YtkalbidbhaalmaaRep
import Derived.Test.YtkalbidbhaalmaaL0
import Derived.Test.YtkalbidbhaalmaaL2
import Derived.Test.YtkalbidbhaalmaaL5
namespace Go.Proofs.Ytkalbidbhaalmaa
open Go.RowKit G
theorem ent13_11 : Enters Try.prog 13 := enters_of Try.func13 (by decide +kernel) (by decide +kernel)
theorem ent14_11 : Enters Try.prog 14 := enters_of Try.func14 (by decide +kernel) (by decide +kernel)
theorem ent16_11 : Enters Try.prog 16 := enters_of Try.func16 (by decide +kernel) (by decide +kernel)
theorem ent19_11 : Enters Try.prog 19 := enters_of Try.func19 (by decide +kernel) (by decide +kernel)
theorem ent22_11 : Enters Try.prog 22 := enters_of Try.func22 (by decide +kernel) (by decide +kernel)
theorem eqT30_11 (x0 x1 y0 y1 : Int) (w : World) : (binOp .eql 30 (.agg #[.int .i64 x0, .int .i64 x1]) (.agg #[.int .i64 y0, .int .i64 y1])).run Try.prog w = .ok (.bool (decide (x0 = y0 ∧ x1 = y1))) w := by
  simp [go_sem]; repeat' split
  all_goals simp_all
theorem eqT30n_11 (x0 x1 y0 y1 : Int) (w : World) : (binOp .neq 30 (.agg #[.int .i64 x0, .int .i64 x1]) (.agg #[.int .i64 y0, .int .i64 y1])).run Try.prog w = .ok (.bool (!decide (x0 = y0 ∧ x1 = y1))) w := by
  simp [go_sem]; repeat' split
  all_goals simp_all
set_option maxRecDepth 100000 in
set_option maxHeartbeats 1000000 in
theorem G.graftlaw07_FormatOnce_spec {m : Mem} {a0 : List UInt8} {a0_a : Option Addr} {a0_c : Nat} (a0_f : Els isU8 m 1 a0_a a0_c a0) {r : Bool} (h : G.graftlaw07_FormatOnce a0 = some r) :
  Spec Try.prog 7 #[.slice a0_a a0.length a0_c] m [] fun v m' L => L = [] ∧ v = .bool r := by
 unfold G.graftlaw07_FormatOnce at h
 refine enter (args := [_]) 57 Try.func7 rfl rfl (by simp) fun fr hK => ?_
 have hS := St.refl (Ow.nil m)
 replace hK : Kn 57 fr [(0, .slice a0_a a0.length a0_c)] := hK
 refine w_seq (w_region ?_)
 refine qp 2 (.bool false) hK fun fr hK => ?_
 refine wpList_nil (then_n ?_)
 refine w_seq ?_
 refine w_seq (w_region ?_)
 refine qp 7 (.slice a0_a a0.length a0_c) hK fun fr hK => ?_
 refine qp 8 (.int .i64 (a0.length : Int)) hK fun fr hK => ?_
 refine qp 9 (.bool (decide ((a0.length : Int) > 2000))) hK fun fr hK => ?_
 refine wpList_nil (then_n ?_)
 refine w_cond hK rfl (fun hb1 => ?_) (fun hb1 => ?_)
 ·
  replace hK := hK.more (t := 9) (v' := .bool true) rfl (by rw [hb1])
  replace h := ite_t (of_decide_eq_true hb1) h
  refine w_seq (w_region ?_)
  obtain ⟨y1, hy1, h⟩ := bind_some h
  refine qo 10 hK (s_call hK.at_ hS ent13_11 rfl rfl rfl rfl (G.graftlaw07_alive_spec hy1) (by kernel_rfl) ?_)
  clear hK fr hS; rintro _ m1 _ l1 hS ⟨rfl, rfl⟩ fr hK
  replace hS : St _ m m1 [] := hS
  refine qp 2 (.bool y1) hK fun fr hK => ?_
  refine wpList_nil (then_n ?_)
  refine wp_ret ?_
  refine then_r ?_
  replace h := Option.some.inj h; subst h
  refine ret_of [.tmp 2] [.bool y1] rfl hK (.tmp rfl .nil) hS.dropAll ?_
  exact ⟨rfl, rfl⟩
 ·
  replace hK := hK.more (t := 9) (v' := .bool false) rfl (by rw [hb1])
  replace h := ite_f (of_decide_eq_false hb1) h
  refine wp_skip ?_
  refine then_n ?_
  refine w_seq (w_region ?_)
  refine qp 12 (.slice a0_a a0.length a0_c) hK fun fr hK => ?_
  obtain ⟨y2, hy2, h⟩ := bind_some h
  refine qo 13 hK (s_call hK.at_ hS ent14_11 rfl rfl rfl rfl (G.format_Decode_spec a0_f hy2) (by kernel_rfl) ?_)
  clear hK fr hS; rintro _ m2 _ l2 hS ⟨c2r0_commands_g, c2r0_commands_c, rfl, rfl, c2r0_commands_f⟩ fr hK
  refine qp 11 (.tuple #[.agg (G_Delta_cells y2.1 (adr c2r0_commands_g) c2r0_commands_c), .agg #[.int .i64 y2.2.code, .int .i64 y2.2.at_]]) hK fun fr hK => ?_
  refine qp 14 (.agg (G_Delta_cells y2.1 (adr c2r0_commands_g) c2r0_commands_c)) hK fun fr hK => ?_
  refine qp 15 (.agg #[.int .i64 y2.2.code, .int .i64 y2.2.at_]) hK fun fr hK => ?_
  refine qo 3 hK (s_alloc (.agg #[.int .i64 0, .int .i64 0, .int .u8 0, .int .u8 0, .int .u8 0, .int .u8 0, .int .u8 0, .int .u8 0, .int .u8 0, .int .u8 0, .int .u8 0, .int .u8 0, .int .u8 0, .int .u8 0, .int .u8 0, .int .u8 0, .int .u8 0, .int .u8 0, .int .u8 0, .int .u8 0, .int .u8 0, .int .u8 0, .int .u8 0, .int .u8 0, .int .u8 0, .int .u8 0, .int .u8 0, .int .u8 0, .int .u8 0, .int .u8 0, .int .u8 0, .int .u8 0, .int .u8 0, .int .u8 0, .int .u8 0, .int .u8 0, .int .u8 0, .int .u8 0, .int .u8 0, .int .u8 0, .int .u8 0, .int .u8 0, .int .u8 0, .int .u8 0, .int .u8 0, .int .u8 0, .int .u8 0, .int .u8 0, .int .u8 0, .int .u8 0, .int .u8 0, .int .u8 0, .int .u8 0, .int .u8 0, .int .u8 0, .int .u8 0, .int .u8 0, .int .u8 0, .int .u8 0, .int .u8 0, .int .u8 0, .int .u8 0, .int .u8 0, .int .u8 0, .int .u8 0, .int .u8 0, .slice none 0 0]) hK.at_ hS rfl (by kernel_rfl) ?_)
  clear hK fr hS; intro m3 b1 b1z l3 hS fr hK
  refine qo 4 hK (s_alloc (.agg #[.int .i64 0, .int .i64 0]) hK.at_ hS rfl (by kernel_rfl) ?_)
  clear hK fr hS; intro m4 b2 b2z l4 hS fr hK
  refine qo0 hK (s_storeAll hK.at_ 1 hS rfl rfl rfl rfl (by kernel_rfl) (by kernel_rfl) (by kernel_rfl) ?_)
  clear hK fr hS; intro m5 l5 hS fr hK
  refine qo0 hK (s_storeAll hK.at_ 1 hS rfl rfl rfl rfl (by kernel_rfl) (by kernel_rfl) (by kernel_rfl) ?_)
  clear hK fr hS; intro m6 l6 hS fr hK
  replace hS : St _ m m6 [.box b2 #[.int .i64 y2.2.code, .int .i64 y2.2.at_] 30, .box b1 (G_Delta_cells y2.1 (adr c2r0_commands_g) c2r0_commands_c) 27, rowOf 50 5 c2r0_commands_g c2r0_commands_c y2.1.commands] := hS
  refine wpList_nil (then_n ?_)
  refine w_seq ?_
  refine w_seq (w_region ?_)
  refine qo 16 hK (s_loadAll hK.at_ hS 0 rfl rfl rfl (by kernel_rfl) ?_)
  clear hK fr; intro fr hK
  refine qp 17 (.agg #[.int .i64 0, .int .i64 0]) hK fun fr hK => ?_
  refine qr 18 (.bool (!decide (y2.2.code = 0 ∧ y2.2.at_ = 0))) hK (by exact run_binAgg rfl rfl rfl (by kernel_rfl) (eqT30n_11 _ _ _ _ _)) ?_
  clear hK fr; intro fr hK
  refine wpList_nil (then_n ?_)
  refine w_cond hK rfl (fun hb2 => ?_) (fun hb2 => ?_)
  ·
   replace hK := hK.more (t := 18) (v' := .bool true) rfl (by rw [hb2])
   replace h := ite_t ((Bool.not_eq_true' _).mp hb2) h
   refine w_seq (w_region ?_)
   obtain ⟨y3, hy3, h⟩ := bind_some h
   refine qo 19 hK (s_call hK.at_ hS ent13_11 rfl rfl rfl rfl (G.graftlaw07_alive_spec hy3) (by kernel_rfl) ?_)
   clear hK fr hS; rintro _ m7 _ l7 hS ⟨rfl, rfl⟩ fr hK
   replace hS : St _ m m7 [.box b2 #[.int .i64 y2.2.code, .int .i64 y2.2.at_] 30, .box b1 (G_Delta_cells y2.1 (adr c2r0_commands_g) c2r0_commands_c) 27, rowOf 50 5 c2r0_commands_g c2r0_commands_c y2.1.commands] := hS
   refine qp 20 (.bool y3) hK fun fr hK => ?_
   refine split_b (x := y3) (fun hb3 => ?_) (fun hb3 => ?_)
   ·
    replace hK := hK.more (t := 20) (v' := .bool true) rfl (by rw [hb3])
    replace hK := hK.more (t := 19) (v' := .bool true) rfl (by rw [hb3])
    replace h := ite_t (hb3) h
    refine qo 21 hK (s_loadAll hK.at_ hS 1 rfl rfl rfl (by kernel_rfl) ?_)
    clear hK fr; intro fr hK
    refine qp 22 (.agg (G_Delta_cells (⟨0, 0, (fun _ => (0 : UInt8)), (fun _ => (0 : UInt8)), ([] : List G.Command)⟩ : G.Delta) none 0)) hK fun fr hK => ?_
    replace c2r0_commands_f := Els.mono rep_G_Command c2r0_commands_f (l3.trans (l4.trans (l5.trans (l6.trans l7))))
    obtain ⟨y4, hy4, h⟩ := bind_some h
    refine qo 23 hK (s_call hK.at_ hS ent16_11 rfl rfl rfl rfl (G.graftref05_Same_spec c2r0_commands_f (Els.nil m7 5) hy4) (by kernel_rfl) ?_)
    clear hK fr hS; rintro _ m8 _ l8 hS ⟨rfl, rfl⟩ fr hK
    replace hS : St _ m m8 [.box b2 #[.int .i64 y2.2.code, .int .i64 y2.2.at_] 30, .box b1 (G_Delta_cells y2.1 (adr c2r0_commands_g) c2r0_commands_c) 27, rowOf 50 5 c2r0_commands_g c2r0_commands_c y2.1.commands] := hS
    refine qp 24 (.bool y4) hK fun fr hK => ?_
    refine qp 25 (.bool y4) hK fun fr hK => ?_
    refine split_b (x := y4) (fun hb4 => ?_) (fun hb4 => ?_)
    ·
     replace hK := hK.more (t := 25) (v' := .bool true) rfl (by rw [hb4])
     replace hK := hK.more (t := 24) (v' := .bool true) rfl (by rw [hb4])
     replace hK := hK.more (t := 23) (v' := .bool true) rfl (by rw [hb4])
     replace h := ite_t (hb4) h
     refine qp 26 (.pointer (some ⟨b2, 0, none⟩)) hK fun fr hK => ?_
     refine qo 27 hK (s_load hK.at_ hS 0 rfl rfl rfl rfl (by kernel_rfl) ?_)
     clear hK fr; intro fr hK
     refine qp 28 (.bool (y2.2.code != 0)) hK fun fr hK => ?_
     refine qp 29 (.bool (y2.2.code != 0)) hK fun fr hK => ?_
     refine qp 30 (.bool (y2.2.code != 0)) hK fun fr hK => ?_
     refine split_b (x := (y2.2.code != 0)) (fun hb5 => ?_) (fun hb5 => ?_)
     ·
      replace hK := hK.more (t := 30) (v' := .bool true) rfl (by rw [hb5])
      replace hK := hK.more (t := 29) (v' := .bool true) rfl (by rw [hb5])
      replace hK := hK.more (t := 28) (v' := .bool true) rfl (by rw [hb5])
      replace h := ite_t (ne_of_bne hb5) h
      refine qp 31 (.pointer (some ⟨b2, 1, none⟩)) hK fun fr hK => ?_
      refine qo 32 hK (s_load hK.at_ hS 0 rfl rfl rfl rfl (by kernel_rfl) ?_)
      clear hK fr; intro fr hK
      refine qp 33 (.bool (decide (y2.2.at_ ≥ 0))) hK fun fr hK => ?_
      refine qp 34 (.bool (decide (y2.2.at_ ≥ 0))) hK fun fr hK => ?_
      refine qp 35 (.bool (decide (y2.2.at_ ≥ 0))) hK fun fr hK => ?_
      refine split_b (x := decide (y2.2.at_ ≥ 0)) (fun hb6 => ?_) (fun hb6 => ?_)
      ·
       replace hK := hK.more (t := 35) (v' := .bool true) rfl (by rw [hb6])
       replace hK := hK.more (t := 34) (v' := .bool true) rfl (by rw [hb6])
       replace hK := hK.more (t := 33) (v' := .bool true) rfl (by rw [hb6])
       replace h := ite_t (of_decide_eq_true hb6) h
       refine qp 36 (.pointer (some ⟨b2, 1, none⟩)) hK fun fr hK => ?_
       refine qo 37 hK (s_load hK.at_ hS 0 rfl rfl rfl rfl (by kernel_rfl) ?_)
       clear hK fr; intro fr hK
       refine qp 38 (.slice a0_a a0.length a0_c) hK fun fr hK => ?_
       refine qp 39 (.int .i64 (a0.length : Int)) hK fun fr hK => ?_
       refine qp 40 (.bool (decide (y2.2.at_ ≤ (a0.length : Int)))) hK fun fr hK => ?_
       refine qp 41 (.bool (decide (y2.2.at_ ≤ (a0.length : Int)))) hK fun fr hK => ?_
       refine qp 2 (.bool (decide (y2.2.at_ ≤ (a0.length : Int)))) hK fun fr hK => ?_
       refine wpList_nil (then_n ?_)
       refine wp_ret ?_
       refine then_r ?_
       replace h := Option.some.inj h; subst h
       refine ret_of [.tmp 2] [.bool (decide (y2.2.at_ ≤ (a0.length : Int)))] rfl hK (.tmp rfl .nil) hS.dropAll ?_
       exact ⟨rfl, rfl⟩
      ·
       replace hK := hK.more (t := 35) (v' := .bool false) rfl (by rw [hb6])
       replace hK := hK.more (t := 34) (v' := .bool false) rfl (by rw [hb6])
       replace hK := hK.more (t := 33) (v' := .bool false) rfl (by rw [hb6])
       replace h := ite_f (of_decide_eq_false hb6) h
       refine qs 36 hK ?_
       clear hK fr; intro fr hK
       refine qs 37 hK ?_
       clear hK fr; intro fr hK
       refine qs 38 hK ?_
       clear hK fr; intro fr hK
       refine qs 39 hK ?_
       clear hK fr; intro fr hK
       refine qs 40 hK ?_
       clear hK fr; intro fr hK
       refine qp 41 (.bool false) hK fun fr hK => ?_
       refine qp 2 (.bool false) hK fun fr hK => ?_
       refine wpList_nil (then_n ?_)
       refine wp_ret ?_
       refine then_r ?_
       replace h := Option.some.inj h; subst h
       refine ret_of [.tmp 2] [.bool false] rfl hK (.tmp rfl .nil) hS.dropAll ?_
       exact ⟨rfl, rfl⟩
     ·
      replace hK := hK.more (t := 30) (v' := .bool false) rfl (by rw [hb5])
      replace hK := hK.more (t := 29) (v' := .bool false) rfl (by rw [hb5])
      replace hK := hK.more (t := 28) (v' := .bool false) rfl (by rw [hb5])
      replace h := ite_f (not_not_intro (eq_of_bne hb5)) h
      refine qs 31 hK ?_
      clear hK fr; intro fr hK
      refine qs 32 hK ?_
      clear hK fr; intro fr hK
      refine qs 33 hK ?_
      clear hK fr; intro fr hK
      refine qp 34 (.bool false) hK fun fr hK => ?_
      refine qp 35 (.bool false) hK fun fr hK => ?_
      refine qs 36 hK ?_
      clear hK fr; intro fr hK
      refine qs 37 hK ?_
      clear hK fr; intro fr hK
      refine qs 38 hK ?_
      clear hK fr; intro fr hK
      refine qs 39 hK ?_
      clear hK fr; intro fr hK
      refine qs 40 hK ?_
      clear hK fr; intro fr hK
      refine qp 41 (.bool false) hK fun fr hK => ?_
      refine qp 2 (.bool false) hK fun fr hK => ?_
      refine wpList_nil (then_n ?_)
      refine wp_ret ?_
      refine then_r ?_
      replace h := Option.some.inj h; subst h
      refine ret_of [.tmp 2] [.bool false] rfl hK (.tmp rfl .nil) hS.dropAll ?_
      exact ⟨rfl, rfl⟩
    ·
     replace hK := hK.more (t := 25) (v' := .bool false) rfl (by rw [hb4])
     replace hK := hK.more (t := 24) (v' := .bool false) rfl (by rw [hb4])
     replace hK := hK.more (t := 23) (v' := .bool false) rfl (by rw [hb4])
     replace h := ite_f (ne_true_of_eq_false hb4) h
     refine qs 26 hK ?_
     clear hK fr; intro fr hK
     refine qs 27 hK ?_
     clear hK fr; intro fr hK
     refine qs 28 hK ?_
     clear hK fr; intro fr hK
     refine qp 29 (.bool false) hK fun fr hK => ?_
     refine qp 30 (.bool false) hK fun fr hK => ?_
     refine qs 31 hK ?_
     clear hK fr; intro fr hK
     refine qs 32 hK ?_
     clear hK fr; intro fr hK
     refine qs 33 hK ?_
     clear hK fr; intro fr hK
     refine qp 34 (.bool false) hK fun fr hK => ?_
     refine qp 35 (.bool false) hK fun fr hK => ?_
     refine qs 36 hK ?_
     clear hK fr; intro fr hK
     refine qs 37 hK ?_
     clear hK fr; intro fr hK
     refine qs 38 hK ?_
     clear hK fr; intro fr hK
     refine qs 39 hK ?_
     clear hK fr; intro fr hK
     refine qs 40 hK ?_
     clear hK fr; intro fr hK
     refine qp 41 (.bool false) hK fun fr hK => ?_
     refine qp 2 (.bool false) hK fun fr hK => ?_
     refine wpList_nil (then_n ?_)
     refine wp_ret ?_
     refine then_r ?_
     replace h := Option.some.inj h; subst h
     refine ret_of [.tmp 2] [.bool false] rfl hK (.tmp rfl .nil) hS.dropAll ?_
     exact ⟨rfl, rfl⟩
   ·
    replace hK := hK.more (t := 20) (v' := .bool false) rfl (by rw [hb3])
    replace hK := hK.more (t := 19) (v' := .bool false) rfl (by rw [hb3])
    replace h := ite_f (ne_true_of_eq_false hb3) h
    refine qs 21 hK ?_
    clear hK fr; intro fr hK
    refine qs 22 hK ?_
    clear hK fr; intro fr hK
    refine qs 23 hK ?_
    clear hK fr; intro fr hK
    refine qp 24 (.bool false) hK fun fr hK => ?_
    refine qp 25 (.bool false) hK fun fr hK => ?_
    refine qs 26 hK ?_
    clear hK fr; intro fr hK
    refine qs 27 hK ?_
    clear hK fr; intro fr hK
    refine qs 28 hK ?_
    clear hK fr; intro fr hK
    refine qp 29 (.bool false) hK fun fr hK => ?_
    refine qp 30 (.bool false) hK fun fr hK => ?_
    refine qs 31 hK ?_
    clear hK fr; intro fr hK
    refine qs 32 hK ?_
    clear hK fr; intro fr hK
    refine qs 33 hK ?_
    clear hK fr; intro fr hK
    refine qp 34 (.bool false) hK fun fr hK => ?_
    refine qp 35 (.bool false) hK fun fr hK => ?_
    refine qs 36 hK ?_
    clear hK fr; intro fr hK
    refine qs 37 hK ?_
    clear hK fr; intro fr hK
    refine qs 38 hK ?_
    clear hK fr; intro fr hK
    refine qs 39 hK ?_
    clear hK fr; intro fr hK
    refine qs 40 hK ?_
    clear hK fr; intro fr hK
    refine qp 41 (.bool false) hK fun fr hK => ?_
    refine qp 2 (.bool false) hK fun fr hK => ?_
    refine wpList_nil (then_n ?_)
    refine wp_ret ?_
    refine then_r ?_
    replace h := Option.some.inj h; subst h
    refine ret_of [.tmp 2] [.bool false] rfl hK (.tmp rfl .nil) hS.dropAll ?_
    exact ⟨rfl, rfl⟩
  ·
   replace hK := hK.more (t := 18) (v' := .bool false) rfl (by rw [hb2])
   replace h := ite_f (not_false_of ((Bool.not_eq_false' _).mp hb2)) h
   refine wp_skip ?_
   refine then_n ?_
   refine w_seq (w_region ?_)
   refine qo 43 hK (s_loadAll hK.at_ hS 1 rfl rfl rfl (by kernel_rfl) ?_)
   clear hK fr; intro fr hK
   replace c2r0_commands_f := Els.mono rep_G_Command c2r0_commands_f (l3.trans (l4.trans (l5.trans l6)))
   obtain ⟨y5, hy5, h⟩ := bind_some h
   refine qo 44 hK (s_call hK.at_ hS ent19_11 rfl rfl rfl rfl (G.format_Encode_spec c2r0_commands_f hy5) (by kernel_rfl) ?_)
   clear hK fr hS; rintro _ m9 _ l9 hS ⟨c5r0_g, c5r0_c, rfl, rfl, c5r0_f⟩ fr hK
   replace hS : St _ m m9 [rowOf 5 1 c5r0_g c5r0_c y5.1, .box b2 #[.int .i64 y2.2.code, .int .i64 y2.2.at_] 30, .box b1 (G_Delta_cells y2.1 (adr c2r0_commands_g) c2r0_commands_c) 27, rowOf 50 5 c2r0_commands_g c2r0_commands_c y2.1.commands] := hS
   refine qp 42 (.tuple #[.slice (adr c5r0_g) y5.1.length c5r0_c, .int .i64 y5.2]) hK fun fr hK => ?_
   refine qp 45 (.slice (adr c5r0_g) y5.1.length c5r0_c) hK fun fr hK => ?_
   refine qp 46 (.int .i64 y5.2) hK fun fr hK => ?_
   refine qp 5 (.slice (adr c5r0_g) y5.1.length c5r0_c) hK fun fr hK => ?_
   refine qp 6 (.int .i64 y5.2) hK fun fr hK => ?_
   refine wpList_nil (then_n ?_)
   refine w_seq (w_region ?_)
   obtain ⟨y6, hy6, h⟩ := bind_some h
   refine qo 47 hK (s_call hK.at_ hS ent13_11 rfl rfl rfl rfl (G.graftlaw07_alive_spec hy6) (by kernel_rfl) ?_)
   clear hK fr hS; rintro _ m10 _ l10 hS ⟨rfl, rfl⟩ fr hK
   replace hS : St _ m m10 [rowOf 5 1 c5r0_g c5r0_c y5.1, .box b2 #[.int .i64 y2.2.code, .int .i64 y2.2.at_] 30, .box b1 (G_Delta_cells y2.1 (adr c2r0_commands_g) c2r0_commands_c) 27, rowOf 50 5 c2r0_commands_g c2r0_commands_c y2.1.commands] := hS
   refine qp 48 (.bool y6) hK fun fr hK => ?_
   refine split_b (x := y6) (fun hb7 => ?_) (fun hb7 => ?_)
   ·
    replace hK := hK.more (t := 48) (v' := .bool true) rfl (by rw [hb7])
    replace hK := hK.more (t := 47) (v' := .bool true) rfl (by rw [hb7])
    replace h := ite_t (hb7) h
    refine qp 49 (.int .i64 y5.2) hK fun fr hK => ?_
    refine qp 50 (.bool (y5.2 == 0)) hK fun fr hK => ?_
    refine qp 51 (.bool (y5.2 == 0)) hK fun fr hK => ?_
    refine qp 52 (.bool (y5.2 == 0)) hK fun fr hK => ?_
    refine split_b (x := (y5.2 == 0)) (fun hb8 => ?_) (fun hb8 => ?_)
    ·
     replace hK := hK.more (t := 52) (v' := .bool true) rfl (by rw [hb8])
     replace hK := hK.more (t := 51) (v' := .bool true) rfl (by rw [hb8])
     replace hK := hK.more (t := 50) (v' := .bool true) rfl (by rw [hb8])
     replace h := ite_t (eq_of_beq hb8) h
     refine qp 53 (.slice (adr c5r0_g) y5.1.length c5r0_c) hK fun fr hK => ?_
     refine qp 54 (.slice a0_a a0.length a0_c) hK fun fr hK => ?_
     replace c5r0_f := Els.mono rep_U8 c5r0_f l10
     replace a0_f := Els.mono rep_U8 a0_f (l2.trans (l3.trans (l4.trans (l5.trans (l6.trans (l9.trans l10))))))
     obtain ⟨y7, hy7, h⟩ := bind_some h
     refine qo 55 hK (s_call hK.at_ hS ent22_11 rfl rfl rfl rfl (G.slices_Equal_byte_byte_spec c5r0_f a0_f hy7) (by kernel_rfl) ?_)
     clear hK fr hS; rintro _ m11 _ l11 hS ⟨rfl, rfl⟩ fr hK
     replace hS : St _ m m11 [rowOf 5 1 c5r0_g c5r0_c y5.1, .box b2 #[.int .i64 y2.2.code, .int .i64 y2.2.at_] 30, .box b1 (G_Delta_cells y2.1 (adr c2r0_commands_g) c2r0_commands_c) 27, rowOf 50 5 c2r0_commands_g c2r0_commands_c y2.1.commands] := hS
     refine qp 56 (.bool y7) hK fun fr hK => ?_
     refine qp 2 (.bool y7) hK fun fr hK => ?_
     refine wpList_nil (then_n ?_)
     refine wp_ret ?_
     replace h := Option.some.inj h; subst h
     refine ret_of [.tmp 2] [.bool y7] rfl hK (.tmp rfl .nil) hS.dropAll ?_
     exact ⟨rfl, rfl⟩
    ·
     replace hK := hK.more (t := 52) (v' := .bool false) rfl (by rw [hb8])
     replace hK := hK.more (t := 51) (v' := .bool false) rfl (by rw [hb8])
     replace hK := hK.more (t := 50) (v' := .bool false) rfl (by rw [hb8])
     replace h := ite_f (ne_of_beq_false hb8) h
     refine qs 53 hK ?_
     clear hK fr; intro fr hK
     refine qs 54 hK ?_
     clear hK fr; intro fr hK
     refine qs 55 hK ?_
     clear hK fr; intro fr hK
     refine qp 56 (.bool false) hK fun fr hK => ?_
     refine qp 2 (.bool false) hK fun fr hK => ?_
     refine wpList_nil (then_n ?_)
     refine wp_ret ?_
     replace h := Option.some.inj h; subst h
     refine ret_of [.tmp 2] [.bool false] rfl hK (.tmp rfl .nil) hS.dropAll ?_
     exact ⟨rfl, rfl⟩
   ·
    replace hK := hK.more (t := 48) (v' := .bool false) rfl (by rw [hb7])
    replace hK := hK.more (t := 47) (v' := .bool false) rfl (by rw [hb7])
    replace h := ite_f (ne_true_of_eq_false hb7) h
    refine qs 49 hK ?_
    clear hK fr; intro fr hK
    refine qs 50 hK ?_
    clear hK fr; intro fr hK
    refine qp 51 (.bool false) hK fun fr hK => ?_
    refine qp 52 (.bool false) hK fun fr hK => ?_
    refine qs 53 hK ?_
    clear hK fr; intro fr hK
    refine qs 54 hK ?_
    clear hK fr; intro fr hK
    refine qs 55 hK ?_
    clear hK fr; intro fr hK
    refine qp 56 (.bool false) hK fun fr hK => ?_
    refine qp 2 (.bool false) hK fun fr hK => ?_
    refine wpList_nil (then_n ?_)
    refine wp_ret ?_
    replace h := Option.some.inj h; subst h
    refine ret_of [.tmp 2] [.bool false] rfl hK (.tmp rfl .nil) hS.dropAll ?_
    exact ⟨rfl, rfl⟩
end Go.Proofs.Ytkalbidbhaalmaa
