/- The program computes the plain functions: graftlaw07_FormatEncodes. Printed by a program. -/
import Derived.Test.YtkalbidbhaalmaaProg
import Derived.Test.YtkalbidbhaalmaaGs
import Derived.Test.YtkalbidbhaalmaaRep
import Derived.Test.YtkalbidbhaalmaaL0
import Derived.Test.YtkalbidbhaalmaaL2
import Derived.Test.YtkalbidbhaalmaaL3
import Derived.Test.YtkalbidbhaalmaaL4
import Derived.Test.YtkalbidbhaalmaaL5
namespace Go.Proofs.Ytkalbidbhaalmaa
open Go.RowKit G
theorem ent13_10 : Enters Try.prog 13 := enters_of Try.func13 (by decide +kernel) (by decide +kernel)
theorem ent17_10 : Enters Try.prog 17 := enters_of Try.func17 (by decide +kernel) (by decide +kernel)
theorem ent18_10 : Enters Try.prog 18 := enters_of Try.func18 (by decide +kernel) (by decide +kernel)
theorem ent19_10 : Enters Try.prog 19 := enters_of Try.func19 (by decide +kernel) (by decide +kernel)
theorem ent20_10 : Enters Try.prog 20 := enters_of Try.func20 (by decide +kernel) (by decide +kernel)
theorem ent21_10 : Enters Try.prog 21 := enters_of Try.func21 (by decide +kernel) (by decide +kernel)
theorem ent22_10 : Enters Try.prog 22 := enters_of Try.func22 (by decide +kernel) (by decide +kernel)
set_option maxRecDepth 100000 in
set_option maxHeartbeats 1000000 in
theorem G.graftlaw07_FormatEncodes_spec {m : Mem} {a0 : G.Delta} {a0_commands_a : Option Addr} {a0_commands_c : Nat} (a0_commands_f : Els is_G_Command m 5 a0_commands_a a0_commands_c a0.commands) {r : Bool} (h : G.graftlaw07_FormatEncodes a0 = some r) :
  Spec Try.prog 6 #[.agg (G_Delta_cells a0 a0_commands_a a0_commands_c)] m [] fun v m' L => L = [] ∧ v = .bool r := by
 unfold G.graftlaw07_FormatEncodes at h
 refine enter (args := [_]) 53 Try.func6 rfl rfl (by simp) fun fr hK => ?_
 have hS := St.refl (Ow.nil m)
 replace hK : Kn 53 fr [(0, .agg (G_Delta_cells a0 a0_commands_a a0_commands_c))] := hK
 refine w_seq (w_region ?_)
 refine qo 1 hK (s_box hK.at_ hS rfl rfl ?_)
 clear hK fr hS; intro m1 b1 b1z l1 hS fr hK
 replace hS : St _ m m1 [.box b1 (G_Delta_cells a0 a0_commands_a a0_commands_c) 27] := hS
 refine qp 2 (.bool false) hK fun fr hK => ?_
 refine wpList_nil (then_n ?_)
 refine w_seq ?_
 refine w_seq (w_region ?_)
 refine qo 6 hK (s_loadAll hK.at_ hS 0 rfl rfl rfl (by kernel_rfl) ?_)
 clear hK fr; intro fr hK
 replace a0_commands_f := Els.mono rep_G_Command a0_commands_f l1
 obtain ⟨y1, hy1, h⟩ := bind_some h
 refine qo 7 hK (s_call hK.at_ hS ent17_10 rfl rfl rfl rfl (G.graftref05_Few_spec a0_commands_f hy1) (by kernel_rfl) ?_)
 clear hK fr hS; rintro _ m2 _ l2 hS ⟨rfl, rfl⟩ fr hK
 replace hS : St _ m m2 [.box b1 (G_Delta_cells a0 a0_commands_a a0_commands_c) 27] := hS
 refine qp 8 (.bool (!y1)) hK fun fr hK => ?_
 refine wpList_nil (then_n ?_)
 refine w_cond hK rfl (fun hb1 => ?_) (fun hb1 => ?_)
 ·
  replace hK := hK.more (t := 8) (v' := .bool true) rfl (by rw [hb1])
  replace h := ite_t ((Bool.not_eq_true' _).mp hb1) h
  refine w_seq (w_region ?_)
  obtain ⟨y2, hy2, h⟩ := bind_some h
  refine qo 9 hK (s_call hK.at_ hS ent13_10 rfl rfl rfl rfl (G.graftlaw07_alive_spec hy2) (by kernel_rfl) ?_)
  clear hK fr hS; rintro _ m3 _ l3 hS ⟨rfl, rfl⟩ fr hK
  replace hS : St _ m m3 [.box b1 (G_Delta_cells a0 a0_commands_a a0_commands_c) 27] := hS
  refine qp 2 (.bool y2) hK fun fr hK => ?_
  refine wpList_nil (then_n ?_)
  refine wp_ret ?_
  refine then_r ?_
  replace h := Option.some.inj h; subst h
  refine ret_of [.tmp 2] [.bool y2] rfl hK (.tmp rfl .nil) hS.dropAll ?_
  exact ⟨rfl, rfl⟩
 ·
  replace hK := hK.more (t := 8) (v' := .bool false) rfl (by rw [hb1])
  replace h := ite_f (not_false_of ((Bool.not_eq_false' _).mp hb1)) h
  refine wp_skip ?_
  refine then_n ?_
  refine w_seq (w_region ?_)
  refine qo 11 hK (s_loadAll hK.at_ hS 0 rfl rfl rfl (by kernel_rfl) ?_)
  clear hK fr; intro fr hK
  replace a0_commands_f := Els.mono rep_G_Command a0_commands_f l2
  obtain ⟨y3, hy3, h⟩ := bind_some h
  refine qo 12 hK (s_call hK.at_ hS ent19_10 rfl rfl rfl rfl (G.format_Encode_spec a0_commands_f hy3) (by kernel_rfl) ?_)
  clear hK fr hS; rintro _ m4 _ l4 hS ⟨c3r0_g, c3r0_c, rfl, rfl, c3r0_f⟩ fr hK
  replace hS : St _ m m4 [rowOf 5 1 c3r0_g c3r0_c y3.1, .box b1 (G_Delta_cells a0 a0_commands_a a0_commands_c) 27] := hS
  refine qp 10 (.tuple #[.slice (adr c3r0_g) y3.1.length c3r0_c, .int .i64 y3.2]) hK fun fr hK => ?_
  refine qp 13 (.slice (adr c3r0_g) y3.1.length c3r0_c) hK fun fr hK => ?_
  refine qp 14 (.int .i64 y3.2) hK fun fr hK => ?_
  refine qp 3 (.slice (adr c3r0_g) y3.1.length c3r0_c) hK fun fr hK => ?_
  refine qp 4 (.int .i64 y3.2) hK fun fr hK => ?_
  refine wpList_nil (then_n ?_)
  refine w_seq ?_
  refine w_seq (w_region ?_)
  refine qo 15 hK (s_loadAll hK.at_ hS 1 rfl rfl rfl (by kernel_rfl) ?_)
  clear hK fr; intro fr hK
  replace a0_commands_f := Els.mono rep_G_Command a0_commands_f l4
  obtain ⟨y4, hy4, h⟩ := bind_some h
  refine qo 16 hK (s_call hK.at_ hS ent18_10 rfl rfl rfl rfl (G.graftref07_Wrong_spec a0_commands_f hy4) (by kernel_rfl) ?_)
  clear hK fr hS; rintro _ m5 _ l5 hS ⟨rfl, rfl⟩ fr hK
  replace hS : St _ m m5 [rowOf 5 1 c3r0_g c3r0_c y3.1, .box b1 (G_Delta_cells a0 a0_commands_a a0_commands_c) 27] := hS
  refine qp 5 (.int .i64 y4) hK fun fr hK => ?_
  refine wpList_nil (then_n ?_)
  refine w_seq (w_region ?_)
  refine qp 17 (.int .i64 y4) hK fun fr hK => ?_
  refine qp 18 (.bool (y4 != 0)) hK fun fr hK => ?_
  refine wpList_nil (then_n ?_)
  refine w_cond hK rfl (fun hb2 => ?_) (fun hb2 => ?_)
  ·
   replace hK := hK.more (t := 18) (v' := .bool true) rfl (by rw [hb2])
   replace h := ite_t (ne_of_bne hb2) h
   refine w_seq (w_region ?_)
   obtain ⟨y5, hy5, h⟩ := bind_some h
   refine qo 19 hK (s_call hK.at_ hS ent13_10 rfl rfl rfl rfl (G.graftlaw07_alive_spec hy5) (by kernel_rfl) ?_)
   clear hK fr hS; rintro _ m6 _ l6 hS ⟨rfl, rfl⟩ fr hK
   replace hS : St _ m m6 [rowOf 5 1 c3r0_g c3r0_c y3.1, .box b1 (G_Delta_cells a0 a0_commands_a a0_commands_c) 27] := hS
   refine qp 20 (.bool y5) hK fun fr hK => ?_
   refine split_b (x := y5) (fun hb3 => ?_) (fun hb3 => ?_)
   ·
    replace hK := hK.more (t := 20) (v' := .bool true) rfl (by rw [hb3])
    replace hK := hK.more (t := 19) (v' := .bool true) rfl (by rw [hb3])
    replace h := ite_t (hb3) h
    refine qp 21 (.slice (adr c3r0_g) y3.1.length c3r0_c) hK fun fr hK => ?_
    refine qp 22 (.int .i64 (y3.1.length : Int)) hK fun fr hK => ?_
    refine qp 23 (.bool ((y3.1.length : Int) == 0)) hK fun fr hK => ?_
    refine qp 24 (.bool ((y3.1.length : Int) == 0)) hK fun fr hK => ?_
    refine qp 25 (.bool ((y3.1.length : Int) == 0)) hK fun fr hK => ?_
    refine split_b (x := ((y3.1.length : Int) == 0)) (fun hb4 => ?_) (fun hb4 => ?_)
    ·
     replace hK := hK.more (t := 25) (v' := .bool true) rfl (by rw [hb4])
     replace hK := hK.more (t := 24) (v' := .bool true) rfl (by rw [hb4])
     replace hK := hK.more (t := 23) (v' := .bool true) rfl (by rw [hb4])
     replace h := ite_t (eq_of_beq hb4) h
     refine qp 26 (.int .i64 y3.2) hK fun fr hK => ?_
     refine qp 27 (.int .i64 y4) hK fun fr hK => ?_
     refine qp 28 (.bool (y3.2 == y4)) hK fun fr hK => ?_
     refine qp 29 (.bool (y3.2 == y4)) hK fun fr hK => ?_
     refine qp 30 (.bool (y3.2 == y4)) hK fun fr hK => ?_
     refine split_b (x := (y3.2 == y4)) (fun hb5 => ?_) (fun hb5 => ?_)
     ·
      replace hK := hK.more (t := 30) (v' := .bool true) rfl (by rw [hb5])
      replace hK := hK.more (t := 29) (v' := .bool true) rfl (by rw [hb5])
      replace hK := hK.more (t := 28) (v' := .bool true) rfl (by rw [hb5])
      replace h := ite_t (eq_of_beq hb5) h
      refine qo 31 hK (s_loadAll hK.at_ hS 1 rfl rfl rfl (by kernel_rfl) ?_)
      clear hK fr; intro fr hK
      replace a0_commands_f := Els.mono rep_G_Command a0_commands_f (l5.trans l6)
      obtain ⟨y6, hy6, h⟩ := bind_some h
      refine qo 32 hK (s_call hK.at_ hS ent21_10 rfl rfl rfl rfl (G.format_Size_spec a0_commands_f hy6) (by kernel_rfl) ?_)
      clear hK fr hS; rintro _ m7 _ l7 hS ⟨rfl, rfl⟩ fr hK
      replace hS : St _ m m7 [rowOf 5 1 c3r0_g c3r0_c y3.1, .box b1 (G_Delta_cells a0 a0_commands_a a0_commands_c) 27] := hS
      refine qp 33 (.bool (y6 == 0)) hK fun fr hK => ?_
      refine qp 34 (.bool (y6 == 0)) hK fun fr hK => ?_
      refine qp 2 (.bool (y6 == 0)) hK fun fr hK => ?_
      refine wpList_nil (then_n ?_)
      refine wp_ret ?_
      refine then_r ?_
      replace h := Option.some.inj h; subst h
      refine ret_of [.tmp 2] [.bool (y6 == 0)] rfl hK (.tmp rfl .nil) hS.dropAll ?_
      exact ⟨rfl, rfl⟩
     ·
      replace hK := hK.more (t := 30) (v' := .bool false) rfl (by rw [hb5])
      replace hK := hK.more (t := 29) (v' := .bool false) rfl (by rw [hb5])
      replace hK := hK.more (t := 28) (v' := .bool false) rfl (by rw [hb5])
      replace h := ite_f (ne_of_beq_false hb5) h
      refine qs 31 hK ?_
      clear hK fr; intro fr hK
      refine qs 32 hK ?_
      clear hK fr; intro fr hK
      refine qs 33 hK ?_
      clear hK fr; intro fr hK
      refine qp 34 (.bool false) hK fun fr hK => ?_
      refine qp 2 (.bool false) hK fun fr hK => ?_
      refine wpList_nil (then_n ?_)
      refine wp_ret ?_
      refine then_r ?_
      replace h := Option.some.inj h; subst h
      refine ret_of [.tmp 2] [.bool false] rfl hK (.tmp rfl .nil) hS.dropAll ?_
      exact ⟨rfl, rfl⟩
    ·
     replace hK := hK.more (t := 25) (v' := .bool false) rfl (by rw [hb4])
     replace hK := hK.more (t := 24) (v' := .bool false) rfl (by rw [hb4])
     replace hK := hK.more (t := 23) (v' := .bool false) rfl (by rw [hb4])
     replace h := ite_f (ne_of_beq_false hb4) h
     refine qs 26 hK ?_
     clear hK fr; intro fr hK
     refine qs 27 hK ?_
     clear hK fr; intro fr hK
     refine qs 28 hK ?_
     clear hK fr; intro fr hK
     refine qp 29 (.bool false) hK fun fr hK => ?_
     refine qp 30 (.bool false) hK fun fr hK => ?_
     refine qs 31 hK ?_
     clear hK fr; intro fr hK
     refine qs 32 hK ?_
     clear hK fr; intro fr hK
     refine qs 33 hK ?_
     clear hK fr; intro fr hK
     refine qp 34 (.bool false) hK fun fr hK => ?_
     refine qp 2 (.bool false) hK fun fr hK => ?_
     refine wpList_nil (then_n ?_)
     refine wp_ret ?_
     refine then_r ?_
     replace h := Option.some.inj h; subst h
     refine ret_of [.tmp 2] [.bool false] rfl hK (.tmp rfl .nil) hS.dropAll ?_
     exact ⟨rfl, rfl⟩
   ·
    replace hK := hK.more (t := 20) (v' := .bool false) rfl (by rw [hb3])
    replace hK := hK.more (t := 19) (v' := .bool false) rfl (by rw [hb3])
    replace h := ite_f (ne_true_of_eq_false hb3) h
    refine qs 21 hK ?_
    clear hK fr; intro fr hK
    refine qs 22 hK ?_
    clear hK fr; intro fr hK
    refine qs 23 hK ?_
    clear hK fr; intro fr hK
    refine qp 24 (.bool false) hK fun fr hK => ?_
    refine qp 25 (.bool false) hK fun fr hK => ?_
    refine qs 26 hK ?_
    clear hK fr; intro fr hK
    refine qs 27 hK ?_
    clear hK fr; intro fr hK
    refine qs 28 hK ?_
    clear hK fr; intro fr hK
    refine qp 29 (.bool false) hK fun fr hK => ?_
    refine qp 30 (.bool false) hK fun fr hK => ?_
    refine qs 31 hK ?_
    clear hK fr; intro fr hK
    refine qs 32 hK ?_
    clear hK fr; intro fr hK
    refine qs 33 hK ?_
    clear hK fr; intro fr hK
    refine qp 34 (.bool false) hK fun fr hK => ?_
    refine qp 2 (.bool false) hK fun fr hK => ?_
    refine wpList_nil (then_n ?_)
    refine wp_ret ?_
    refine then_r ?_
    replace h := Option.some.inj h; subst h
    refine ret_of [.tmp 2] [.bool false] rfl hK (.tmp rfl .nil) hS.dropAll ?_
    exact ⟨rfl, rfl⟩
  ·
   replace hK := hK.more (t := 18) (v' := .bool false) rfl (by rw [hb2])
   replace h := ite_f (not_not_intro (eq_of_bne hb2)) h
   refine wp_skip ?_
   refine then_n ?_
   refine w_seq (w_region ?_)
   obtain ⟨y7, hy7, h⟩ := bind_some h
   refine qo 35 hK (s_call hK.at_ hS ent13_10 rfl rfl rfl rfl (G.graftlaw07_alive_spec hy7) (by kernel_rfl) ?_)
   clear hK fr hS; rintro _ m8 _ l8 hS ⟨rfl, rfl⟩ fr hK
   replace hS : St _ m m8 [rowOf 5 1 c3r0_g c3r0_c y3.1, .box b1 (G_Delta_cells a0 a0_commands_a a0_commands_c) 27] := hS
   refine qp 36 (.bool y7) hK fun fr hK => ?_
   refine split_b (x := y7) (fun hb6 => ?_) (fun hb6 => ?_)
   ·
    replace hK := hK.more (t := 36) (v' := .bool true) rfl (by rw [hb6])
    replace hK := hK.more (t := 35) (v' := .bool true) rfl (by rw [hb6])
    replace h := ite_t (hb6) h
    refine qp 37 (.int .i64 y3.2) hK fun fr hK => ?_
    refine qp 38 (.bool (y3.2 == 0)) hK fun fr hK => ?_
    refine qp 39 (.bool (y3.2 == 0)) hK fun fr hK => ?_
    refine qp 40 (.bool (y3.2 == 0)) hK fun fr hK => ?_
    refine split_b (x := (y3.2 == 0)) (fun hb7 => ?_) (fun hb7 => ?_)
    ·
     replace hK := hK.more (t := 40) (v' := .bool true) rfl (by rw [hb7])
     replace hK := hK.more (t := 39) (v' := .bool true) rfl (by rw [hb7])
     replace hK := hK.more (t := 38) (v' := .bool true) rfl (by rw [hb7])
     replace h := ite_t (eq_of_beq hb7) h
     refine qp 41 (.slice (adr c3r0_g) y3.1.length c3r0_c) hK fun fr hK => ?_
     refine qo 42 hK (s_loadAll hK.at_ hS 1 rfl rfl rfl (by kernel_rfl) ?_)
     clear hK fr; intro fr hK
     replace a0_commands_f := Els.mono rep_G_Command a0_commands_f (l5.trans l8)
     obtain ⟨y8, hy8, h⟩ := bind_some h
     refine qo 43 hK (s_call hK.at_ hS ent20_10 rfl rfl rfl rfl (G.graftref07_Encode_spec a0_commands_f hy8) (by kernel_rfl) ?_)
     clear hK fr hS; rintro _ m9 _ l9 hS ⟨c8r0_g, c8r0_c, rfl, rfl, c8r0_f⟩ fr hK
     replace hS : St _ m m9 [rowOf 5 1 c8r0_g c8r0_c y8, rowOf 5 1 c3r0_g c3r0_c y3.1, .box b1 (G_Delta_cells a0 a0_commands_a a0_commands_c) 27] := hS
     replace c3r0_f := Els.mono rep_U8 c3r0_f (l5.trans (l8.trans l9))
     obtain ⟨y9, hy9, h⟩ := bind_some h
     refine qo 44 hK (s_call hK.at_ hS ent22_10 rfl rfl rfl rfl (G.slices_Equal_byte_byte_spec c3r0_f c8r0_f hy9) (by kernel_rfl) ?_)
     clear hK fr hS; rintro _ m10 _ l10 hS ⟨rfl, rfl⟩ fr hK
     replace hS : St _ m m10 [rowOf 5 1 c8r0_g c8r0_c y8, rowOf 5 1 c3r0_g c3r0_c y3.1, .box b1 (G_Delta_cells a0 a0_commands_a a0_commands_c) 27] := hS
     refine qp 45 (.bool y9) hK fun fr hK => ?_
     refine qp 46 (.bool y9) hK fun fr hK => ?_
     refine split_b (x := y9) (fun hb8 => ?_) (fun hb8 => ?_)
     ·
      replace hK := hK.more (t := 46) (v' := .bool true) rfl (by rw [hb8])
      replace hK := hK.more (t := 45) (v' := .bool true) rfl (by rw [hb8])
      replace hK := hK.more (t := 44) (v' := .bool true) rfl (by rw [hb8])
      replace h := ite_t (hb8) h
      refine qo 47 hK (s_loadAll hK.at_ hS 2 rfl rfl rfl (by kernel_rfl) ?_)
      clear hK fr; intro fr hK
      replace a0_commands_f := Els.mono rep_G_Command a0_commands_f (l9.trans l10)
      obtain ⟨y10, hy10, h⟩ := bind_some h
      refine qo 48 hK (s_call hK.at_ hS ent21_10 rfl rfl rfl rfl (G.format_Size_spec a0_commands_f hy10) (by kernel_rfl) ?_)
      clear hK fr hS; rintro _ m11 _ l11 hS ⟨rfl, rfl⟩ fr hK
      replace hS : St _ m m11 [rowOf 5 1 c8r0_g c8r0_c y8, rowOf 5 1 c3r0_g c3r0_c y3.1, .box b1 (G_Delta_cells a0 a0_commands_a a0_commands_c) 27] := hS
      refine qp 49 (.slice (adr c3r0_g) y3.1.length c3r0_c) hK fun fr hK => ?_
      refine qp 50 (.int .i64 (y3.1.length : Int)) hK fun fr hK => ?_
      refine qp 51 (.bool (y10 == (y3.1.length : Int))) hK fun fr hK => ?_
      refine qp 52 (.bool (y10 == (y3.1.length : Int))) hK fun fr hK => ?_
      refine qp 2 (.bool (y10 == (y3.1.length : Int))) hK fun fr hK => ?_
      refine wpList_nil (then_n ?_)
      refine wp_ret ?_
      replace h := Option.some.inj h; subst h
      refine ret_of [.tmp 2] [.bool (y10 == (y3.1.length : Int))] rfl hK (.tmp rfl .nil) hS.dropAll ?_
      exact ⟨rfl, rfl⟩
     ·
      replace hK := hK.more (t := 46) (v' := .bool false) rfl (by rw [hb8])
      replace hK := hK.more (t := 45) (v' := .bool false) rfl (by rw [hb8])
      replace hK := hK.more (t := 44) (v' := .bool false) rfl (by rw [hb8])
      replace h := ite_f (ne_true_of_eq_false hb8) h
      refine qs 47 hK ?_
      clear hK fr; intro fr hK
      refine qs 48 hK ?_
      clear hK fr; intro fr hK
      refine qs 49 hK ?_
      clear hK fr; intro fr hK
      refine qs 50 hK ?_
      clear hK fr; intro fr hK
      refine qs 51 hK ?_
      clear hK fr; intro fr hK
      refine qp 52 (.bool false) hK fun fr hK => ?_
      refine qp 2 (.bool false) hK fun fr hK => ?_
      refine wpList_nil (then_n ?_)
      refine wp_ret ?_
      replace h := Option.some.inj h; subst h
      refine ret_of [.tmp 2] [.bool false] rfl hK (.tmp rfl .nil) hS.dropAll ?_
      exact ⟨rfl, rfl⟩
    ·
     replace hK := hK.more (t := 40) (v' := .bool false) rfl (by rw [hb7])
     replace hK := hK.more (t := 39) (v' := .bool false) rfl (by rw [hb7])
     replace hK := hK.more (t := 38) (v' := .bool false) rfl (by rw [hb7])
     replace h := ite_f (ne_of_beq_false hb7) h
     refine qs 41 hK ?_
     clear hK fr; intro fr hK
     refine qs 42 hK ?_
     clear hK fr; intro fr hK
     refine qs 43 hK ?_
     clear hK fr; intro fr hK
     refine qs 44 hK ?_
     clear hK fr; intro fr hK
     refine qp 45 (.bool false) hK fun fr hK => ?_
     refine qp 46 (.bool false) hK fun fr hK => ?_
     refine qs 47 hK ?_
     clear hK fr; intro fr hK
     refine qs 48 hK ?_
     clear hK fr; intro fr hK
     refine qs 49 hK ?_
     clear hK fr; intro fr hK
     refine qs 50 hK ?_
     clear hK fr; intro fr hK
     refine qs 51 hK ?_
     clear hK fr; intro fr hK
     refine qp 52 (.bool false) hK fun fr hK => ?_
     refine qp 2 (.bool false) hK fun fr hK => ?_
     refine wpList_nil (then_n ?_)
     refine wp_ret ?_
     replace h := Option.some.inj h; subst h
     refine ret_of [.tmp 2] [.bool false] rfl hK (.tmp rfl .nil) hS.dropAll ?_
     exact ⟨rfl, rfl⟩
   ·
    replace hK := hK.more (t := 36) (v' := .bool false) rfl (by rw [hb6])
    replace hK := hK.more (t := 35) (v' := .bool false) rfl (by rw [hb6])
    replace h := ite_f (ne_true_of_eq_false hb6) h
    refine qs 37 hK ?_
    clear hK fr; intro fr hK
    refine qs 38 hK ?_
    clear hK fr; intro fr hK
    refine qp 39 (.bool false) hK fun fr hK => ?_
    refine qp 40 (.bool false) hK fun fr hK => ?_
    refine qs 41 hK ?_
    clear hK fr; intro fr hK
    refine qs 42 hK ?_
    clear hK fr; intro fr hK
    refine qs 43 hK ?_
    clear hK fr; intro fr hK
    refine qs 44 hK ?_
    clear hK fr; intro fr hK
    refine qp 45 (.bool false) hK fun fr hK => ?_
    refine qp 46 (.bool false) hK fun fr hK => ?_
    refine qs 47 hK ?_
    clear hK fr; intro fr hK
    refine qs 48 hK ?_
    clear hK fr; intro fr hK
    refine qs 49 hK ?_
    clear hK fr; intro fr hK
    refine qs 50 hK ?_
    clear hK fr; intro fr hK
    refine qs 51 hK ?_
    clear hK fr; intro fr hK
    refine qp 52 (.bool false) hK fun fr hK => ?_
    refine qp 2 (.bool false) hK fun fr hK => ?_
    refine wpList_nil (then_n ?_)
    refine wp_ret ?_
    replace h := Option.some.inj h; subst h
    refine ret_of [.tmp 2] [.bool false] rfl hK (.tmp rfl .nil) hS.dropAll ?_
    exact ⟨rfl, rfl⟩
end Go.Proofs.Ytkalbidbhaalmaa
