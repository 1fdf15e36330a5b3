/- The program computes the plain functions: graftlaw05_DeltaBreaks. Printed by a program. -/
import Derived.Test.YtkalbidbhaalmaaProg
import Derived.Test.YtkalbidbhaalmaaGs
import Derived.Test.YtkalbidbhaalmaaRep
import Derived.Test.YtkalbidbhaalmaaL0
import Derived.Test.YtkalbidbhaalmaaL2
import Derived.Test.YtkalbidbhaalmaaL4
namespace Go.Proofs.Ytkalbidbhaalmaa
open Go.RowKit G
theorem ent17_7 : Enters Try.prog 17 := enters_of Try.func17 (by decide +kernel) (by decide +kernel)
theorem ent23_7 : Enters Try.prog 23 := enters_of Try.func23 (by decide +kernel) (by decide +kernel)
theorem ent25_7 : Enters Try.prog 25 := enters_of Try.func25 (by decide +kernel) (by decide +kernel)
theorem ent27_7 : Enters Try.prog 27 := enters_of Try.func27 (by decide +kernel) (by decide +kernel)
theorem ent28_7 : Enters Try.prog 28 := enters_of Try.func28 (by decide +kernel) (by decide +kernel)
theorem elT25_7 : ElemT Try.prog 25 50 (.agg #[.int .i64 0, .int .i64 0, .int .i64 0, .int .i64 0, .slice none 0 0]) 5 56 := ⟨by kernel_rfl, by kernel_rfl, by kernel_rfl, by decide⟩
theorem eqT30_7 (x0 x1 y0 y1 : Int) (w : World) : (binOp .eql 30 (.agg #[.int .i64 x0, .int .i64 x1]) (.agg #[.int .i64 y0, .int .i64 y1])).run Try.prog w = .ok (.bool (decide (x0 = y0 ∧ x1 = y1))) w := by
  simp [go_sem]; repeat' split
  all_goals simp_all
theorem eqT30n_7 (x0 x1 y0 y1 : Int) (w : World) : (binOp .neq 30 (.agg #[.int .i64 x0, .int .i64 x1]) (.agg #[.int .i64 y0, .int .i64 y1])).run Try.prog w = .ok (.bool (!decide (x0 = y0 ∧ x1 = y1))) w := by
  simp [go_sem]; repeat' split
  all_goals simp_all
set_option maxRecDepth 100000 in
set_option maxHeartbeats 1000000 in
theorem G.graftlaw05_DeltaBreaks_spec {m : Mem} {a0 : G.Delta} {a0_commands_a : Option Addr} {a0_commands_c : Nat} {a1 : UInt8} (a0_commands_f : Els is_G_Command m 5 a0_commands_a a0_commands_c a0.commands) {r : Bool} (h : G.graftlaw05_DeltaBreaks a0 a1 = some r) :
  Spec Try.prog 9 #[.agg (G_Delta_cells a0 a0_commands_a a0_commands_c), .int .u8 (a1.toNat : Int)] m [] fun v m' L => L = [] ∧ v = .bool r := by
 unfold G.graftlaw05_DeltaBreaks at h
 refine enter (args := [_, _]) 76 Try.func9 rfl rfl (by simp) fun fr hK => ?_
 have hS := St.refl (Ow.nil m)
 replace hK : Kn 76 fr [(0, .agg (G_Delta_cells a0 a0_commands_a a0_commands_c)), (1, .int .u8 (a1.toNat : Int))] := hK
 refine w_seq (w_region ?_)
 refine qo 2 hK (s_box hK.at_ hS rfl rfl ?_)
 clear hK fr hS; intro m1 b1 b1z l1 hS fr hK
 replace hS : St _ m m1 [.box b1 (G_Delta_cells a0 a0_commands_a a0_commands_c) 27] := hS
 refine qp 4 (.bool false) hK fun fr hK => ?_
 refine wpListIn_nil (then_n ?_)
 refine w_seq ?_
 refine w_seq ?_
 obtain ⟨v1, hv1, h⟩ := bind_some h
 refine w_join (fun fr ww => ∃ m2 : Mem, m2.w = ww ∧ Kn 76 fr [(1, .int .u8 (a1.toNat : Int)), (2, .pointer (some ⟨b1, 0, none⟩)), (22, .bool v1)] ∧ Le m1 m2 ∧ St (blocksOf []) m m2 [.box b1 (G_Delta_cells a0 a0_commands_a a0_commands_c) 27]) ?_ ?_
 ·
  clear hK hS fr hv1
  rintro fr _ ⟨m2, rfl, hK, l2, hS⟩
  refine then_n ?_
  refine w_cond hK rfl (fun hb1 => ?_) (fun hb1 => ?_)
  ·
   replace hK := hK.more (t := 22) (v' := .bool true) rfl (by rw [hb1])
   replace h := ite_t (hb1) h
   refine w_seq (w_region ?_)
   obtain ⟨y1, hy1, h⟩ := bind_some h
   refine qo 23 hK (s_call hK.at_ hS ent23_7 rfl rfl rfl rfl (G.graftlaw05_alive_spec hy1) (by kernel_rfl) ?_)
   clear hK fr hS; rintro _ m3 _ l3 hS ⟨rfl, rfl⟩ fr hK
   replace hS : St _ m m3 [.box b1 (G_Delta_cells a0 a0_commands_a a0_commands_c) 27] := hS
   refine qp 4 (.bool y1) hK fun fr hK => ?_
   refine wpListIn_nil (then_n ?_)
   refine wpIn_ret ?_
   refine then_r ?_
   replace h := Option.some.inj h; subst h
   refine ret_of [.tmp 4] [.bool y1] rfl hK (.tmp rfl .nil) hS.dropAll ?_
   exact ⟨rfl, rfl⟩
  ·
   replace hK := hK.more (t := 22) (v' := .bool false) rfl (by rw [hb1])
   replace h := ite_f (ne_true_of_eq_false hb1) h
   refine wpIn_skip ?_
   refine then_n ?_
   refine w_seq (w_region ?_)
   refine qp 24 (.int .u8 (a1.toNat : Int)) hK fun fr hK => ?_
   refine qe 25 (.int .i64 (a1.toNat : Int)) (.int .i64 (IntKind.i64.wrap (a1.toNat : Int))) hK (by exact v_int (conv8 rfl _)) ?_
   clear hK fr; intro fr hK
   refine qp 26 (.pointer (some ⟨b1, 66, none⟩)) hK fun fr hK => ?_
   refine qo 27 hK (s_load hK.at_ hS 0 rfl rfl rfl rfl (by kernel_rfl) ?_)
   clear hK fr; intro fr hK
   refine qp 28 (.int .i64 (a0.commands.length : Int)) hK fun fr hK => ?_
   obtain ⟨y2, hy2, h⟩ := bind_some h
   refine qr 29 (.int .i64 (Int.tmod (a1.toNat : Int) (a0.commands.length : Int))) hK (by exact run_quo (chk_some hy2) rfl rfl rfl (.inr ⟨rfl, rfl⟩)) ?_
   clear hK fr; intro fr hK
   refine qp 5 (.int .i64 (Int.tmod (a1.toNat : Int) (a0.commands.length : Int))) hK fun fr hK => ?_
   refine wpListIn_nil (then_n ?_)
   refine w_seq (w_region ?_)
   refine qp 30 (.pointer (some ⟨b1, 66, none⟩)) hK fun fr hK => ?_
   refine qo 31 hK (s_load hK.at_ hS 0 rfl rfl rfl rfl (by kernel_rfl) ?_)
   clear hK fr; intro fr hK
   refine qp 32 (.int .i64 (Int.tmod (a1.toNat : Int) (a0.commands.length : Int))) hK fun fr hK => ?_
   replace a0_commands_f := Els.mono rep_G_Command a0_commands_f (l1.trans l2)
   obtain ⟨x1, hy3, h⟩ := bind_some h
   refine qo 33 hK (s_idx elT25_7 a0_commands_f hy3 hK.at_ rfl rfl rfl ?_)
   clear hK fr; intro b2 p1 cs1 hR1 hA1 fr hK
   obtain ⟨e1_data_a, e1_data_c, rfl, e1_data_f⟩ := hR1
   refine qo 34 hK (s_loadAtN [.int .i64 x1.kind, .int .i64 x1.to, .int .i64 x1.from_, .int .i64 x1.len, .slice e1_data_a x1.data.length e1_data_c] hK.at_ hA1 0 rfl rfl rfl (by kernel_rfl) (by kernel_rfl) ?_)
   clear hK fr; intro fr hK
   refine qo 6 hK (s_alloc (.agg #[.int .i64 0, .int .i64 0, .int .i64 0, .int .i64 0, .slice none 0 0]) hK.at_ hS rfl (by kernel_rfl) ?_)
   clear hK fr hS; intro m4 b3 b3z l4 hS fr hK
   refine qo0 hK (s_storeAll hK.at_ 0 hS rfl rfl rfl rfl (by kernel_rfl) (by kernel_rfl) (by kernel_rfl) ?_)
   clear hK fr hS; intro m5 l5 hS fr hK
   replace hS : St _ m m5 [.box b3 #[.int .i64 x1.kind, .int .i64 x1.to, .int .i64 x1.from_, .int .i64 x1.len, .slice e1_data_a x1.data.length e1_data_c] 50, .box b1 (G_Delta_cells a0 a0_commands_a a0_commands_c) 27] := hS
   refine wpListIn_nil (then_n ?_)
   refine w_seq ?_
   replace a0_commands_f := Els.mono rep_G_Command a0_commands_f (l4.trans l5)
   replace e1_data_f := Els.mono rep_U8 e1_data_f (l4.trans l5)
   replace hA1 := hA1.mono (l4.trans l5)
   obtain ⟨x2, hy4, h⟩ := bind_some h
   obtain ⟨x3, hy5, h⟩ := bind_some h
   obtain ⟨x4, hy6, h⟩ := bind_some h
   have hm0 : ∀ p ∈ ([(fun _ A _ => A = []), (fun l A M => ∃ (b4 : Nat), l[0]? = some (.slice (adr (some b4)) (([] : List G.Command).length) 0) ∧ A = [rowOf 50 5 (some b4) 0 ([] : List G.Command)] ∧ Els is_G_Command M 5 (adr (some b4)) 0 ([] : List G.Command)), (fun l A M => ∃ (b4 : Nat) (g1 : Option Nat) (cp2 : Nat), l[0]? = some (.slice (adr (some b4)) (([] : List G.Command).length) 0) ∧ l[1]? = some (.slice (adr g1) x3.length cp2) ∧ A = [rowOf 50 5 g1 cp2 x3] ∧ Els is_G_Command M 5 (adr (some b4)) 0 ([] : List G.Command) ∧ Els is_G_Command M 5 (adr g1) cp2 x3)] : List D.Stage), D.MonoP p := D.allP_cons (fun _ _ _ _ h _ => h) (D.allP_cons (fun _ _ _ _ ⟨b4, el0, eA, f1⟩ hl => ⟨b4, el0, eA, Els.mono rep_G_Command f1 hl⟩) (D.allP_cons (fun _ _ _ _ ⟨b4, g1, cp2, el0, el1, eA, f1, f3⟩ hl => ⟨b4, g1, cp2, el0, el1, eA, Els.mono rep_G_Command f1 hl, Els.mono rep_G_Command f3 hl⟩) (D.allP_nil)))
   have hCm := D.C1_mono [.box b3 #[.int .i64 x1.kind, .int .i64 x1.to, .int .i64 x1.from_, .int .i64 x1.len, .slice e1_data_a x1.data.length e1_data_c] 50, .box b1 (G_Delta_cells a0 a0_commands_a a0_commands_c) 27] hm0
   refine D.wp_drawM (m0 := m5) 11 [[0, 5]] [([], [(0, 0)], some 0), ([(2, none)], [(0, 1)], none), ([(36, some 0)], [(0, 1)], none), ([(5, none)], [(0, 1)], none), ([(37, some 1), (38, some 0)], [(0, 1)], none), ([(35, some 4), (39, some 0)], [(1, 1)], some 0), ([(2, none)], [(0, 2)], none), ([(41, some 0)], [(0, 2)], none), ([(5, none)], [(0, 2)], none), ([(43, some 0)], [(0, 2)], none), ([(42, some 2), (44, some 0)], [(0, 2)], none)] (D.SM m5 m (blocksOf []) (D.C1 [(fun _ A _ => A = []), (fun l A M => ∃ (b4 : Nat), l[0]? = some (.slice (adr (some b4)) (([] : List G.Command).length) 0) ∧ A = [rowOf 50 5 (some b4) 0 ([] : List G.Command)] ∧ Els is_G_Command M 5 (adr (some b4)) 0 ([] : List G.Command)), (fun l A M => ∃ (b4 : Nat) (g1 : Option Nat) (cp2 : Nat), l[0]? = some (.slice (adr (some b4)) (([] : List G.Command).length) 0) ∧ l[1]? = some (.slice (adr g1) x3.length cp2) ∧ A = [rowOf 50 5 g1 cp2 x3] ∧ Els is_G_Command M 5 (adr (some b4)) 0 ([] : List G.Command) ∧ Els is_G_Command M 5 (adr g1) cp2 x3)] [.box b3 #[.int .i64 x1.kind, .int .i64 x1.to, .int .i64 x1.from_, .int .i64 x1.len, .slice e1_data_a x1.data.length e1_data_c] 50, .box b1 (G_Delta_cells a0 a0_commands_a a0_commands_c) 27])) hK.size (by kernel_rfl) (by kernel_rfl) (by kernel_rfl) (D.start1 hS (fun _ => rfl)) ?_
   refine D.onA (fun uu MM => ∃ (b4 : Nat), uu = .slice (adr (some b4)) (([] : List G.Command).length) 0 ∧ Els is_G_Command MM 5 (adr (some b4)) 0 ([] : List G.Command)) (fun _ _ _ ⟨b4, e, f1⟩ g => ⟨b4, e, Els.mono rep_G_Command f1 g⟩) (by
    intro ac MM vs hbd hcor hS00 hk; have hS0 := hS00
    obtain ⟨hle, LL, hC, hSt⟩ := hS0
    have hSt0 := hSt
    have hC0 := hC; obtain ⟨A0, h0, rfl⟩ := hC
    have hn := D.bd_eq hbd 0 0 rfl
    obtain rfl := D.CH.at h0 hn rfl
    replace hSt := hSt
    have hKe : Ke ac [] := (.nil _)
    exact ⟨D.wanted0 rfl, s_buildRow (elem := 50) #[] hKe hSt rfl (by kernel_rfl) (by kernel_rfl) (by
      intro M2 b4 l2 hS2 hA2
      have f1 : Els is_G_Command M2 5 (some ⟨b4, 0, none⟩) 0 ([] : List G.Command) := els_lit rep_G_Command [] hA2 (by simp) (by decide) .nil
      exact ⟨M2, rfl, l2, ⟨b4, rfl, f1⟩, hle.trans l2, _, ⟨_, D.CH.push hn rfl ⟨b4, D.get_push hn, rfl, f1⟩, rfl⟩, hS2⟩)⟩) ?_
   refine D.onP [(2, .pointer (some ⟨b1, 0, none⟩))] (.pointer (some ⟨b1, 66, none⟩)) (fun ac MM hk => (.cons (hk.1.trans (hK.at_ 2 _ rfl)) (.nil _))) ?_
   refine D.onA (fun uu _ => uu = .slice a0_commands_a a0.commands.length a0_commands_c) (fun _ _ _ h _ => h) (by
    intro ac MM vs hbd hcor hS00 hk; have hS0 := hS00
    obtain ⟨hle, LL, hC, hSt⟩ := hS0
    have hSt0 := hSt
    have hC0 := hC; obtain ⟨A0, h0, rfl⟩ := hC
    have hS := D.St_right (hSt)
    have k36 : ac.eval (.tmp 36) = .pointer (some ⟨b1, 66, none⟩) := hk.1
    have hKe : Ke ac [(36, .pointer (some ⟨b1, 66, none⟩))] := (.cons k36 (.nil _))
    exact ⟨D.wanted0 rfl, s_load hKe hS 1 rfl rfl rfl rfl (by kernel_rfl) ⟨MM, rfl, Le.refl _, rfl, hS00⟩⟩) ?_
   refine D.onP [(5, .int .i64 (Int.tmod (a1.toNat : Int) (a0.commands.length : Int)))] (.int .i64 (Int.tmod (a1.toNat : Int) (a0.commands.length : Int))) (fun ac MM hk => (.cons (hk.1.trans (hK.at_ 5 _ rfl)) (.nil _))) ?_
   refine D.onA (fun uu MM => ∃ (ad1 : Option Addr) (cp1 : Nat), uu = .slice ad1 x2.length cp1 ∧ Els is_G_Command MM 5 ad1 cp1 x2) (fun _ _ _ ⟨ad1, cp1, e, f2⟩ g => ⟨ad1, cp1, e, Els.mono rep_G_Command f2 g⟩) (by
    intro ac MM vs hbd hcor hS00 hk; have hS0 := hS00
    obtain ⟨hle, LL, hC, hSt⟩ := hS0
    have hSt0 := hSt
    have hC0 := hC; obtain ⟨A0, h0, rfl⟩ := hC
    have hS := D.St_right (hSt)
    have k37 : ac.eval (.tmp 37) = .slice a0_commands_a a0.commands.length a0_commands_c := hk.1
    have k38 : ac.eval (.tmp 38) = .int .i64 (Int.tmod (a1.toNat : Int) (a0.commands.length : Int)) := hk.2.1
    have hKe : Ke ac [(37, .slice a0_commands_a a0.commands.length a0_commands_c), (38, .int .i64 (Int.tmod (a1.toNat : Int) (a0.commands.length : Int)))] := (.cons k37 (.cons k38 (.nil _)))
    replace a0_commands_f := Els.mono rep_G_Command a0_commands_f hle
    exact ⟨D.wanted0 rfl, s_slcTo elT25_7 a0_commands_f hy4 hKe rfl rfl rfl (fun ad1 cp1 f2 => ⟨MM, rfl, Le.refl _, ⟨ad1, cp1, rfl, f2⟩, hS00⟩)⟩) ?_
   refine D.onA (fun uu MM => ∃ (g1 : Option Nat) (cp2 : Nat), uu = .slice (adr g1) x3.length cp2 ∧ Els is_G_Command MM 5 (adr g1) cp2 x3) (fun _ _ _ ⟨g1, cp2, e, f3⟩ g => ⟨g1, cp2, e, Els.mono rep_G_Command f3 g⟩) (by
    intro ac MM vs hbd hcor hS00 hk; have hS0 := hS00
    obtain ⟨hle, LL, hC, hSt⟩ := hS0
    have hSt0 := hSt
    have hC0 := hC; obtain ⟨A0, h0, rfl⟩ := hC
    have hn := D.bd_eq hbd 0 1 rfl
    obtain ⟨b4, el0, rfl, f1⟩ := D.CH.at h0 hn rfl
    replace hSt := hSt
    have k35 : ac.eval (.tmp 35) = .slice (adr (some b4)) (([] : List G.Command).length) 0 := hcor 0 0 _ _ _ _ rfl rfl rfl el0
    obtain ⟨ad1, cp1, k39, f2⟩ : ∃ (ad1 : Option Addr) (cp1 : Nat), ac.eval (.tmp 39) = .slice ad1 x2.length cp1 ∧ Els is_G_Command MM 5 ad1 cp1 x2 := hk.2.1
    have hKe : Ke ac [(35, .slice (adr (some b4)) (([] : List G.Command).length) 0), (39, .slice ad1 x2.length cp1)] := (.cons k35 (.cons k39 (.nil _)))
    exact ⟨D.wanted0 rfl, s_app elT25_7 rep_G_Command hy5 hKe 0 hSt rfl f1 f2 rfl rfl rfl (by decide) (by
      intro M2 g1 cp2 l2 hS2 f3
      exact ⟨M2, rfl, l2, ⟨g1, cp2, rfl, f3⟩, hle.trans l2, _, ⟨_, D.CH.push hn rfl ⟨b4, g1, cp2, D.get_old el0, D.get_push hn, rfl, Els.mono rep_G_Command f1 l2, f3⟩, rfl⟩, hS2⟩)⟩) ?_
   refine D.onP [(2, .pointer (some ⟨b1, 0, none⟩))] (.pointer (some ⟨b1, 66, none⟩)) (fun ac MM hk => (.cons (hk.1.trans (hK.at_ 2 _ rfl)) (.nil _))) ?_
   refine D.onA (fun uu _ => uu = .slice a0_commands_a a0.commands.length a0_commands_c) (fun _ _ _ h _ => h) (by
    intro ac MM vs hbd hcor hS00 hk; have hS0 := hS00
    obtain ⟨hle, LL, hC, hSt⟩ := hS0
    have hSt0 := hSt
    have hC0 := hC; obtain ⟨A0, h0, rfl⟩ := hC
    have hS := D.St_right (hSt)
    have k41 : ac.eval (.tmp 41) = .pointer (some ⟨b1, 66, none⟩) := hk.1
    have hKe : Ke ac [(41, .pointer (some ⟨b1, 66, none⟩))] := (.cons k41 (.nil _))
    exact ⟨D.wanted0 rfl, s_load hKe hS 1 rfl rfl rfl rfl (by kernel_rfl) ⟨MM, rfl, Le.refl _, rfl, hS00⟩⟩) ?_
   refine D.onP [(5, .int .i64 (Int.tmod (a1.toNat : Int) (a0.commands.length : Int)))] (.int .i64 (Int.tmod (a1.toNat : Int) (a0.commands.length : Int))) (fun ac MM hk => (.cons (hk.1.trans (hK.at_ 5 _ rfl)) (.nil _))) ?_
   refine D.onP [(43, .int .i64 (Int.tmod (a1.toNat : Int) (a0.commands.length : Int)))] (.int .i64 (IntKind.i64.wrap ((Int.tmod (a1.toNat : Int) (a0.commands.length : Int)) + 1))) (fun ac MM hk => (.cons (hk.1) (.nil _))) ?_
   refine D.onA (fun uu MM => ∃ (ad2 : Option Addr) (cp3 : Nat), uu = .slice ad2 x4.length cp3 ∧ Els is_G_Command MM 5 ad2 cp3 x4) (fun _ _ _ ⟨ad2, cp3, e, f4⟩ g => ⟨ad2, cp3, e, Els.mono rep_G_Command f4 g⟩) (by
    intro ac MM vs hbd hcor hS00 hk; have hS0 := hS00
    obtain ⟨hle, LL, hC, hSt⟩ := hS0
    have hSt0 := hSt
    have hC0 := hC; obtain ⟨A0, h0, rfl⟩ := hC
    have hS := D.St_right (hSt)
    have k42 : ac.eval (.tmp 42) = .slice a0_commands_a a0.commands.length a0_commands_c := hk.1
    have k44 : ac.eval (.tmp 44) = .int .i64 (IntKind.i64.wrap ((Int.tmod (a1.toNat : Int) (a0.commands.length : Int)) + 1)) := hk.2.1
    have hKe : Ke ac [(42, .slice a0_commands_a a0.commands.length a0_commands_c), (44, .int .i64 (IntKind.i64.wrap ((Int.tmod (a1.toNat : Int) (a0.commands.length : Int)) + 1)))] := (.cons k42 (.cons k44 (.nil _)))
    replace a0_commands_f := Els.mono rep_G_Command a0_commands_f hle
    exact ⟨D.wanted0 rfl, s_slcFrom elT25_7 a0_commands_f hy6 hKe rfl rfl rfl (fun ad2 cp3 f4 => ⟨MM, rfl, Le.refl _, ⟨ad2, cp3, rfl, f4⟩, hS00⟩)⟩) ?_
   intro fr2 m6 vs hlen hcor hS2 hE; obtain ⟨l6, LL, hC, hS2⟩ := hS2
   obtain ⟨A0, h0, rfl⟩ := hC
   obtain ⟨b4, g1, cp2, el0_0, el0_1, rfl, f1, f3⟩ := D.CH.at h0 (hlen 0) rfl
   replace hS2 : St _ m m6 [rowOf 50 5 g1 cp2 x3, .box b3 #[.int .i64 x1.kind, .int .i64 x1.to, .int .i64 x1.from_, .int .i64 x1.len, .slice e1_data_a x1.data.length e1_data_c] 50, .box b1 (G_Delta_cells a0 a0_commands_a a0_commands_c) 27] := hS2
   have kl35 : fr2.eval (.tmp 35) = .slice (adr (some b4)) (([] : List G.Command).length) 0 := hcor 0 0 _ _ _ _ rfl rfl rfl el0_0
   have kl40 : fr2.eval (.tmp 40) = .slice (adr g1) x3.length cp2 := hcor 0 1 _ _ _ _ rfl rfl rfl el0_1
   obtain ⟨ad2, cp3, k45, f4⟩ : ∃ (ad2 : Option Addr) (cp3 : Nat), fr2.eval (.tmp 45) = .slice ad2 x4.length cp3 ∧ Els is_G_Command m6 5 ad2 cp3 x4 := hE.slots 45
   have hK2 := D.kn_endsM [(35, .slice (adr (some b4)) (([] : List G.Command).length) 0), (36, .pointer (some ⟨b1, 66, none⟩)), (37, .slice a0_commands_a a0.commands.length a0_commands_c), (38, .int .i64 (Int.tmod (a1.toNat : Int) (a0.commands.length : Int))), (39, fr2.eval (.tmp 39)), (40, .slice (adr g1) x3.length cp2), (41, .pointer (some ⟨b1, 66, none⟩)), (42, .slice a0_commands_a a0.commands.length a0_commands_c), (43, .int .i64 (Int.tmod (a1.toNat : Int) (a0.commands.length : Int))), (44, .int .i64 (IntKind.i64.wrap ((Int.tmod (a1.toNat : Int) (a0.commands.length : Int)) + 1))), (45, .slice ad2 x4.length cp3)] hK hE rfl (by kernel_rfl) (.cons (kl35) (.cons (hE.slots 36) (.cons (hE.slots 37) (.cons (hE.slots 38) (.cons (rfl) (.cons (kl40) (.cons (hE.slots 41) (.cons (hE.slots 42) (.cons (hE.slots 43) (.cons (hE.slots 44) (.cons (k45) (.nil _))))))))))))
   replace hK2 : Kn 76 fr2 [(35, .slice (adr (some b4)) (([] : List G.Command).length) 0), (36, .pointer (some ⟨b1, 66, none⟩)), (37, .slice a0_commands_a a0.commands.length a0_commands_c), (38, .int .i64 (Int.tmod (a1.toNat : Int) (a0.commands.length : Int))), (40, .slice (adr g1) x3.length cp2), (41, .pointer (some ⟨b1, 66, none⟩)), (42, .slice a0_commands_a a0.commands.length a0_commands_c), (43, .int .i64 (Int.tmod (a1.toNat : Int) (a0.commands.length : Int))), (44, .int .i64 (IntKind.i64.wrap ((Int.tmod (a1.toNat : Int) (a0.commands.length : Int)) + 1))), (45, .slice ad2 x4.length cp3), (6, .pointer (some ⟨b3, 0, none⟩)), (34, .agg #[.int .i64 x1.kind, .int .i64 x1.to, .int .i64 x1.from_, .int .i64 x1.len, .slice e1_data_a x1.data.length e1_data_c]), (33, .pointer (some ⟨b2, p1, none⟩)), (32, .int .i64 (Int.tmod (a1.toNat : Int) (a0.commands.length : Int))), (31, .slice a0_commands_a a0.commands.length a0_commands_c), (30, .pointer (some ⟨b1, 66, none⟩)), (5, .int .i64 (Int.tmod (a1.toNat : Int) (a0.commands.length : Int))), (29, .int .i64 (Int.tmod (a1.toNat : Int) (a0.commands.length : Int))), (28, .int .i64 (a0.commands.length : Int)), (27, .slice a0_commands_a a0.commands.length a0_commands_c), (26, .pointer (some ⟨b1, 66, none⟩)), (25, .int .i64 (a1.toNat : Int)), (24, .int .u8 (a1.toNat : Int)), (22, .bool false), (1, .int .u8 (a1.toNat : Int)), (2, .pointer (some ⟨b1, 0, none⟩))] := hK2.only [35, 36, 37, 38, 40, 41, 42, 43, 44, 45, 6, 34, 33, 32, 31, 30, 5, 29, 28, 27, 26, 25, 24, 22, 1, 2]
   clear hE hK hcor hlen kl35 kl40 k45 h0 el0_0 el0_1; revert hK2; clear hS; revert fr2; clear fr; intro fr hK; have hS := hS2; clear hS2 hCm hm0
   replace hS : St _ m m6 [rowOf 50 5 g1 cp2 x3, .box b3 #[.int .i64 x1.kind, .int .i64 x1.to, .int .i64 x1.from_, .int .i64 x1.len, .slice e1_data_a x1.data.length e1_data_c] 50, .box b1 (G_Delta_cells a0 a0_commands_a a0_commands_c) 27] := hS
   obtain ⟨x5, hy7, h⟩ := bind_some h
   refine qo 46 hK (s_app elT25_7 rep_G_Command hy7 hK.at_ 0 hS rfl f3 f4 rfl rfl rfl (by decide) ?_)
   clear hK fr hS; intro m7 g2 cp4 l7 hS f5 fr hK
   replace hS : St _ m m7 [rowOf 50 5 g2 cp4 x5, .box b3 #[.int .i64 x1.kind, .int .i64 x1.to, .int .i64 x1.from_, .int .i64 x1.len, .slice e1_data_a x1.data.length e1_data_c] 50, .box b1 (G_Delta_cells a0 a0_commands_a a0_commands_c) 27] := hS
   refine qp 7 (.slice (adr g2) x5.length cp4) hK fun fr hK => ?_
   refine wpListIn_nil (then_n ?_)
   refine w_seq ?_
   replace a0_commands_f := Els.mono rep_G_Command a0_commands_f (l6.trans l7)
   replace e1_data_f := Els.mono rep_U8 e1_data_f (l6.trans l7)
   replace hA1 := hA1.mono (l6.trans l7)
   replace f1 := Els.mono rep_G_Command f1 l7
   replace f3 := Els.mono rep_G_Command f3 l7
   replace f4 := Els.mono rep_G_Command f4 l7
   obtain ⟨x6, hy8, h⟩ := bind_some h
   have hm0 : ∀ p ∈ ([(fun _ A _ => A = []), (fun l A M => ∃ (b5 : Nat), l[0]? = some (.slice (adr (some b5)) (([] : List G.Command).length) 0) ∧ A = [rowOf 50 5 (some b5) 0 ([] : List G.Command)] ∧ Els is_G_Command M 5 (adr (some b5)) 0 ([] : List G.Command)), (fun l A M => ∃ (b5 : Nat) (g3 : Option Nat) (cp5 : Nat), l[0]? = some (.slice (adr (some b5)) (([] : List G.Command).length) 0) ∧ l[1]? = some (.slice (adr g3) x6.length cp5) ∧ A = [rowOf 50 5 g3 cp5 x6] ∧ Els is_G_Command M 5 (adr (some b5)) 0 ([] : List G.Command) ∧ Els is_G_Command M 5 (adr g3) cp5 x6)] : List D.Stage), D.MonoP p := D.allP_cons (fun _ _ _ _ h _ => h) (D.allP_cons (fun _ _ _ _ ⟨b5, el0, eA, f6⟩ hl => ⟨b5, el0, eA, Els.mono rep_G_Command f6 hl⟩) (D.allP_cons (fun _ _ _ _ ⟨b5, g3, cp5, el0, el1, eA, f6, f7⟩ hl => ⟨b5, g3, cp5, el0, el1, eA, Els.mono rep_G_Command f6 hl, Els.mono rep_G_Command f7 hl⟩) (D.allP_nil)))
   have hCm := D.C1_mono [rowOf 50 5 g2 cp4 x5, .box b3 #[.int .i64 x1.kind, .int .i64 x1.to, .int .i64 x1.from_, .int .i64 x1.len, .slice e1_data_a x1.data.length e1_data_c] 50, .box b1 (G_Delta_cells a0 a0_commands_a a0_commands_c) 27] hm0
   refine D.wp_drawM (m0 := m7) 6 [[0, 3]] [([], [(0, 0)], some 0), ([(2, none)], [(0, 1)], none), ([(48, some 0)], [(0, 1)], none), ([(47, some 2), (49, some 0)], [(1, 1)], some 0), ([(6, none)], [(0, 2)], none), ([(51, some 0)], [(0, 2)], none)] (D.SM m7 m (blocksOf []) (D.C1 [(fun _ A _ => A = []), (fun l A M => ∃ (b5 : Nat), l[0]? = some (.slice (adr (some b5)) (([] : List G.Command).length) 0) ∧ A = [rowOf 50 5 (some b5) 0 ([] : List G.Command)] ∧ Els is_G_Command M 5 (adr (some b5)) 0 ([] : List G.Command)), (fun l A M => ∃ (b5 : Nat) (g3 : Option Nat) (cp5 : Nat), l[0]? = some (.slice (adr (some b5)) (([] : List G.Command).length) 0) ∧ l[1]? = some (.slice (adr g3) x6.length cp5) ∧ A = [rowOf 50 5 g3 cp5 x6] ∧ Els is_G_Command M 5 (adr (some b5)) 0 ([] : List G.Command) ∧ Els is_G_Command M 5 (adr g3) cp5 x6)] [rowOf 50 5 g2 cp4 x5, .box b3 #[.int .i64 x1.kind, .int .i64 x1.to, .int .i64 x1.from_, .int .i64 x1.len, .slice e1_data_a x1.data.length e1_data_c] 50, .box b1 (G_Delta_cells a0 a0_commands_a a0_commands_c) 27])) hK.size (by kernel_rfl) (by kernel_rfl) (by kernel_rfl) (D.start1 hS (fun _ => rfl)) ?_
   refine D.onA (fun uu MM => ∃ (b5 : Nat), uu = .slice (adr (some b5)) (([] : List G.Command).length) 0 ∧ Els is_G_Command MM 5 (adr (some b5)) 0 ([] : List G.Command)) (fun _ _ _ ⟨b5, e, f6⟩ g => ⟨b5, e, Els.mono rep_G_Command f6 g⟩) (by
    intro ac MM vs hbd hcor hS00 hk; have hS0 := hS00
    obtain ⟨hle, LL, hC, hSt⟩ := hS0
    have hSt0 := hSt
    have hC0 := hC; obtain ⟨A0, h0, rfl⟩ := hC
    have hn := D.bd_eq hbd 0 0 rfl
    obtain rfl := D.CH.at h0 hn rfl
    replace hSt := hSt
    have hKe : Ke ac [] := (.nil _)
    exact ⟨D.wanted0 rfl, s_buildRow (elem := 50) #[] hKe hSt rfl (by kernel_rfl) (by kernel_rfl) (by
      intro M2 b5 l2 hS2 hA3
      have f6 : Els is_G_Command M2 5 (some ⟨b5, 0, none⟩) 0 ([] : List G.Command) := els_lit rep_G_Command [] hA3 (by simp) (by decide) .nil
      exact ⟨M2, rfl, l2, ⟨b5, rfl, f6⟩, hle.trans l2, _, ⟨_, D.CH.push hn rfl ⟨b5, D.get_push hn, rfl, f6⟩, rfl⟩, hS2⟩)⟩) ?_
   refine D.onP [(2, .pointer (some ⟨b1, 0, none⟩))] (.pointer (some ⟨b1, 66, none⟩)) (fun ac MM hk => (.cons (hk.1.trans (hK.at_ 2 _ rfl)) (.nil _))) ?_
   refine D.onA (fun uu _ => uu = .slice a0_commands_a a0.commands.length a0_commands_c) (fun _ _ _ h _ => h) (by
    intro ac MM vs hbd hcor hS00 hk; have hS0 := hS00
    obtain ⟨hle, LL, hC, hSt⟩ := hS0
    have hSt0 := hSt
    have hC0 := hC; obtain ⟨A0, h0, rfl⟩ := hC
    have hS := D.St_right (hSt)
    have k48 : ac.eval (.tmp 48) = .pointer (some ⟨b1, 66, none⟩) := hk.1
    have hKe : Ke ac [(48, .pointer (some ⟨b1, 66, none⟩))] := (.cons k48 (.nil _))
    exact ⟨D.wanted0 rfl, s_load hKe hS 2 rfl rfl rfl rfl (by kernel_rfl) ⟨MM, rfl, Le.refl _, rfl, hS00⟩⟩) ?_
   refine D.onA (fun uu MM => ∃ (g3 : Option Nat) (cp5 : Nat), uu = .slice (adr g3) x6.length cp5 ∧ Els is_G_Command MM 5 (adr g3) cp5 x6) (fun _ _ _ ⟨g3, cp5, e, f7⟩ g => ⟨g3, cp5, e, Els.mono rep_G_Command f7 g⟩) (by
    intro ac MM vs hbd hcor hS00 hk; have hS0 := hS00
    obtain ⟨hle, LL, hC, hSt⟩ := hS0
    have hSt0 := hSt
    have hC0 := hC; obtain ⟨A0, h0, rfl⟩ := hC
    have hn := D.bd_eq hbd 0 1 rfl
    obtain ⟨b5, el0, rfl, f6⟩ := D.CH.at h0 hn rfl
    replace hSt := hSt
    have k47 : ac.eval (.tmp 47) = .slice (adr (some b5)) (([] : List G.Command).length) 0 := hcor 0 0 _ _ _ _ rfl rfl rfl el0
    have k49 : ac.eval (.tmp 49) = .slice a0_commands_a a0.commands.length a0_commands_c := hk.2.1
    have hKe : Ke ac [(47, .slice (adr (some b5)) (([] : List G.Command).length) 0), (49, .slice a0_commands_a a0.commands.length a0_commands_c)] := (.cons k47 (.cons k49 (.nil _)))
    replace a0_commands_f := Els.mono rep_G_Command a0_commands_f hle
    exact ⟨D.wanted0 rfl, s_app elT25_7 rep_G_Command hy8 hKe 0 hSt rfl f6 a0_commands_f rfl rfl rfl (by decide) (by
      intro M2 g3 cp5 l2 hS2 f7
      exact ⟨M2, rfl, l2, ⟨g3, cp5, rfl, f7⟩, hle.trans l2, _, ⟨_, D.CH.push hn rfl ⟨b5, g3, cp5, D.get_old el0, D.get_push hn, rfl, Els.mono rep_G_Command f6 l2, f7⟩, rfl⟩, hS2⟩)⟩) ?_
   refine D.onA (fun uu _ => uu = .agg #[.int .i64 x1.kind, .int .i64 x1.to, .int .i64 x1.from_, .int .i64 x1.len, .slice e1_data_a x1.data.length e1_data_c]) (fun _ _ _ h _ => h) (by
    intro ac MM vs hbd hcor hS00 hk; have hS0 := hS00
    obtain ⟨hle, LL, hC, hSt⟩ := hS0
    have hSt0 := hSt
    have hC0 := hC; obtain ⟨A0, h0, rfl⟩ := hC
    have hS := D.St_right (hSt)
    have k6 : ac.eval (.tmp 6) = .pointer (some ⟨b3, 0, none⟩) := hk.1.trans (hK.at_ 6 _ rfl)
    have hKe : Ke ac [(6, .pointer (some ⟨b3, 0, none⟩))] := (.cons k6 (.nil _))
    exact ⟨D.wanted0 rfl, s_loadAll hKe hS 1 rfl rfl rfl (by kernel_rfl) ⟨MM, rfl, Le.refl _, rfl, hS00⟩⟩) ?_
   refine D.onA (fun uu MM => ∃ (b6 : Nat), uu = .slice (some ⟨b6, 0, none⟩) (([x1] : List G.Command).length) 1 ∧ Els is_G_Command MM 5 (some ⟨b6, 0, none⟩) 1 ([x1] : List G.Command)) (fun _ _ _ ⟨b6, e, f8⟩ g => ⟨b6, e, Els.mono rep_G_Command f8 g⟩) (by
    intro ac MM vs hbd hcor hS00 hk; have hS0 := hS00
    obtain ⟨hle, LL, hC, hSt⟩ := hS0
    have hSt0 := hSt
    have hC0 := hC; obtain ⟨A0, h0, rfl⟩ := hC
    have hS := D.St_right (hSt)
    have k51 : ac.eval (.tmp 51) = .agg #[.int .i64 x1.kind, .int .i64 x1.to, .int .i64 x1.from_, .int .i64 x1.len, .slice e1_data_a x1.data.length e1_data_c] := hk.1
    have hKe : Ke ac [(51, .agg #[.int .i64 x1.kind, .int .i64 x1.to, .int .i64 x1.from_, .int .i64 x1.len, .slice e1_data_a x1.data.length e1_data_c])] := (.cons k51 (.nil _))
    exact ⟨D.wanted0 rfl, s_buildSlice (elem := 50) #[.int .i64 x1.kind, .int .i64 x1.to, .int .i64 x1.from_, .int .i64 x1.len, .slice e1_data_a x1.data.length e1_data_c] hKe hSt0 rfl (by kernel_rfl) (by kernel_rfl) (by
      intro M2 b6 hz_ hn_ hl2 hS2 hA4
      replace e1_data_f := Els.mono rep_U8 e1_data_f (hle.trans hl2)
      have f8 : Els is_G_Command M2 5 (some ⟨b6, 0, none⟩) 1 ([x1] : List G.Command) := els_lit rep_G_Command [[.int .i64 x1.kind, .int .i64 x1.to, .int .i64 x1.from_, .int .i64 x1.len, .slice e1_data_a x1.data.length e1_data_c]] hA4 (by simp) (by decide) (.cons ⟨e1_data_a, e1_data_c, rfl, e1_data_f⟩ .nil)
      exact ⟨M2, rfl, hl2, ⟨b6, rfl, f8⟩, hle.trans hl2, _, hCm _ _ _ _ hC0 hl2, hS2⟩)⟩) ?_
   intro fr2 m8 vs hlen hcor hS2 hE; obtain ⟨l8, LL, hC, hS2⟩ := hS2
   obtain ⟨A0, h0, rfl⟩ := hC
   obtain ⟨b5, g3, cp5, el0_0, el0_1, rfl, f6, f7⟩ := D.CH.at h0 (hlen 0) rfl
   replace hS2 : St _ m m8 [rowOf 50 5 g3 cp5 x6, rowOf 50 5 g2 cp4 x5, .box b3 #[.int .i64 x1.kind, .int .i64 x1.to, .int .i64 x1.from_, .int .i64 x1.len, .slice e1_data_a x1.data.length e1_data_c] 50, .box b1 (G_Delta_cells a0 a0_commands_a a0_commands_c) 27] := hS2
   have kl47 : fr2.eval (.tmp 47) = .slice (adr (some b5)) (([] : List G.Command).length) 0 := hcor 0 0 _ _ _ _ rfl rfl rfl el0_0
   have kl50 : fr2.eval (.tmp 50) = .slice (adr g3) x6.length cp5 := hcor 0 1 _ _ _ _ rfl rfl rfl el0_1
   obtain ⟨b6, k52, f8⟩ : ∃ (b6 : Nat), fr2.eval (.tmp 52) = .slice (some ⟨b6, 0, none⟩) (([x1] : List G.Command).length) 1 ∧ Els is_G_Command m8 5 (some ⟨b6, 0, none⟩) 1 ([x1] : List G.Command) := hE.slots 52
   have hK2 := D.kn_endsM [(47, .slice (adr (some b5)) (([] : List G.Command).length) 0), (48, .pointer (some ⟨b1, 66, none⟩)), (49, .slice a0_commands_a a0.commands.length a0_commands_c), (50, .slice (adr g3) x6.length cp5), (51, .agg #[.int .i64 x1.kind, .int .i64 x1.to, .int .i64 x1.from_, .int .i64 x1.len, .slice e1_data_a x1.data.length e1_data_c]), (52, .slice (some ⟨b6, 0, none⟩) (([x1] : List G.Command).length) 1)] hK hE rfl (by kernel_rfl) (.cons (kl47) (.cons (hE.slots 48) (.cons (hE.slots 49) (.cons (kl50) (.cons (hE.slots 51) (.cons (k52) (.nil _)))))))
   replace hK2 : Kn 76 fr2 [(47, .slice (adr (some b5)) (([] : List G.Command).length) 0), (48, .pointer (some ⟨b1, 66, none⟩)), (49, .slice a0_commands_a a0.commands.length a0_commands_c), (50, .slice (adr g3) x6.length cp5), (51, .agg #[.int .i64 x1.kind, .int .i64 x1.to, .int .i64 x1.from_, .int .i64 x1.len, .slice e1_data_a x1.data.length e1_data_c]), (52, .slice (some ⟨b6, 0, none⟩) (([x1] : List G.Command).length) 1), (7, .slice (adr g2) x5.length cp4), (46, .slice (adr g2) x5.length cp4), (35, .slice (adr (some b4)) (([] : List G.Command).length) 0), (36, .pointer (some ⟨b1, 66, none⟩)), (37, .slice a0_commands_a a0.commands.length a0_commands_c), (38, .int .i64 (Int.tmod (a1.toNat : Int) (a0.commands.length : Int))), (40, .slice (adr g1) x3.length cp2), (41, .pointer (some ⟨b1, 66, none⟩)), (42, .slice a0_commands_a a0.commands.length a0_commands_c), (43, .int .i64 (Int.tmod (a1.toNat : Int) (a0.commands.length : Int))), (44, .int .i64 (IntKind.i64.wrap ((Int.tmod (a1.toNat : Int) (a0.commands.length : Int)) + 1))), (45, .slice ad2 x4.length cp3), (6, .pointer (some ⟨b3, 0, none⟩)), (34, .agg #[.int .i64 x1.kind, .int .i64 x1.to, .int .i64 x1.from_, .int .i64 x1.len, .slice e1_data_a x1.data.length e1_data_c]), (33, .pointer (some ⟨b2, p1, none⟩)), (32, .int .i64 (Int.tmod (a1.toNat : Int) (a0.commands.length : Int))), (31, .slice a0_commands_a a0.commands.length a0_commands_c), (30, .pointer (some ⟨b1, 66, none⟩)), (5, .int .i64 (Int.tmod (a1.toNat : Int) (a0.commands.length : Int))), (29, .int .i64 (Int.tmod (a1.toNat : Int) (a0.commands.length : Int))), (28, .int .i64 (a0.commands.length : Int)), (27, .slice a0_commands_a a0.commands.length a0_commands_c), (26, .pointer (some ⟨b1, 66, none⟩)), (25, .int .i64 (a1.toNat : Int)), (24, .int .u8 (a1.toNat : Int)), (22, .bool false), (1, .int .u8 (a1.toNat : Int)), (2, .pointer (some ⟨b1, 0, none⟩))] := hK2.only [47, 48, 49, 50, 51, 52, 7, 46, 35, 36, 37, 38, 40, 41, 42, 43, 44, 45, 6, 34, 33, 32, 31, 30, 5, 29, 28, 27, 26, 25, 24, 22, 1, 2]
   clear hE hK hcor hlen kl47 kl50 k52 h0 el0_0 el0_1; revert hK2; clear hS; revert fr2; clear fr; intro fr hK; have hS := hS2; clear hS2 hCm hm0
   replace hS : St _ m m8 [rowOf 50 5 g3 cp5 x6, rowOf 50 5 g2 cp4 x5, .box b3 #[.int .i64 x1.kind, .int .i64 x1.to, .int .i64 x1.from_, .int .i64 x1.len, .slice e1_data_a x1.data.length e1_data_c] 50, .box b1 (G_Delta_cells a0 a0_commands_a a0_commands_c) 27] := hS
   obtain ⟨x7, hy9, h⟩ := bind_some h
   refine qo 53 hK (s_app elT25_7 rep_G_Command hy9 hK.at_ 0 hS rfl f7 f8 rfl rfl rfl (by decide) ?_)
   clear hK fr hS; intro m9 g4 cp6 l9 hS f9 fr hK
   replace hS : St _ m m9 [rowOf 50 5 g4 cp6 x7, rowOf 50 5 g2 cp4 x5, .box b3 #[.int .i64 x1.kind, .int .i64 x1.to, .int .i64 x1.from_, .int .i64 x1.len, .slice e1_data_a x1.data.length e1_data_c] 50, .box b1 (G_Delta_cells a0 a0_commands_a a0_commands_c) 27] := hS
   refine qp 8 (.slice (adr g4) x7.length cp6) hK fun fr hK => ?_
   refine wpListIn_nil (then_n ?_)
   refine w_seq ?_
   replace a0_commands_f := Els.mono rep_G_Command a0_commands_f (l8.trans l9)
   replace e1_data_f := Els.mono rep_U8 e1_data_f (l8.trans l9)
   replace hA1 := hA1.mono (l8.trans l9)
   replace f1 := Els.mono rep_G_Command f1 (l8.trans l9)
   replace f3 := Els.mono rep_G_Command f3 (l8.trans l9)
   replace f4 := Els.mono rep_G_Command f4 (l8.trans l9)
   replace f5 := Els.mono rep_G_Command f5 (l8.trans l9)
   replace f6 := Els.mono rep_G_Command f6 l9
   replace f7 := Els.mono rep_G_Command f7 l9
   replace f8 := Els.mono rep_G_Command f8 l9
   obtain ⟨y3, hy10, h⟩ := bind_some h
   refine split_b (x := y3) (fun hb2 => ?_) (fun hb2 => ?_)
   ·
    replace h := ite_t (hb2) h
    obtain ⟨y4, hy11, h⟩ := bind_some h
    obtain ⟨y5, hy12, h⟩ := bind_some h
    refine split_b (x := decide (y5.code = 3 ∧ y5.at_ = x1.to)) (fun hb3 => ?_) (fun hb3 => ?_)
    ·
     replace h := ite_t (of_decide_eq_true hb3) h
     obtain ⟨y6, hy13, h⟩ := bind_some h
     obtain ⟨y7, hy14, h⟩ := bind_some h
     have hlt0 : ∀ bq ∈ blocksOf [rowOf 50 5 g4 cp6 x7, rowOf 50 5 g2 cp4 x5, .box b3 #[.int .i64 x1.kind, .int .i64 x1.to, .int .i64 x1.from_, .int .i64 x1.len, .slice e1_data_a x1.data.length e1_data_c] 50, .box b1 (G_Delta_cells a0 a0_commands_a a0_commands_c) 27], bq < m9.w.heap.size := fun bq hbq => hS.ow.lt hbq
     refine D.wp_draw (Gr := D.GO m9 none) (S := D.SO none (blocksOf []) m m9 (fun _ => [rowOf 50 5 g4 cp6 x7, rowOf 50 5 g2 cp4 x5, .box b3 #[.int .i64 x1.kind, .int .i64 x1.to, .int .i64 x1.from_, .int .i64 x1.len, .slice e1_data_a x1.data.length e1_data_c] 50, .box b1 (G_Delta_cells a0 a0_commands_a a0_commands_c) 27]) (fun _ => True)) (N := 0) 20 [] [([], 0, 0, false), ([(54, some 0)], 0, 0, false), ([(2, none), (55, some 0)], 0, 0, false), ([(7, none), (55, some 1)], 0, 0, false), ([(56, some 1), (57, some 0), (55, some 2)], 0, 0, false), ([(58, some 0), (55, some 3)], 0, 0, false), ([(6, none), (55, some 4)], 0, 0, false), ([(60, some 0), (55, some 5)], 0, 0, false), ([(61, some 0), (55, some 6)], 0, 0, false), ([(59, some 3), (62, some 0), (55, some 7)], 0, 0, false), ([(55, some 8), (63, some 0)], 0, 0, false), ([(64, some 0)], 0, 0, false), ([(2, none), (65, some 0)], 0, 0, false), ([(8, none), (65, some 1)], 0, 0, false), ([(66, some 1), (67, some 0), (65, some 2)], 0, 0, false), ([(68, some 0), (65, some 3)], 0, 0, false), ([(2, none), (65, some 4)], 0, 0, false), ([(70, some 0), (65, some 5)], 0, 0, false), ([(71, some 0), (65, some 6)], 0, 0, false), ([(72, some 0), (65, some 7)], 0, 0, false)] hK.size (by kernel_rfl) (by kernel_rfl) (by kernel_rfl) rfl (D.startO hS trivial) ?_
     refine D.on_op (fun uu _ => uu = .bool true) (fun _ _ _ h _ => h) (by
      intro ac ww kk hlo hhi hb hk
      obtain rfl : kk = 0 := by omega
      have h0 := hS; replace hS := hb.2.1
      have hKe : Ke ac [] := (.nil _)
      exact ⟨D.wanted0 rfl, D.callO h0 (fun bq hbq => hlt0 bq (by revert hbq; simp [blocksOf, Ent.box, rowOf, Ent.row]; try omega)) hb hKe ent23_7 rfl rfl rfl rfl (G.graftlaw05_alive_spec hy10) (by kernel_rfl) (by rintro _ m' _ hg hn hl ⟨rfl, rfl⟩; exact (by rw [hb2]))⟩) ?_
     refine D.on_pure (D.GO_refl _ _) [(54, .bool true)] (.bool true) (fun ac ww hk => (.cons (hk.1) (.nil _))) ?_
     refine D.on_det (D.GO_refl _ _) [(2, .pointer (some ⟨b1, 0, none⟩)), (55, .bool true)] (.agg (G_Delta_cells a0 a0_commands_a a0_commands_c)) (fun ac ww hk => (.cons (hk.1.trans (hK.at_ 2 _ rfl)) (.cons (hk.2.1) (.nil _)))) (fun ac ww kk hb hKe Post hp => (fun hS => s_loadAll hKe hS 3 rfl rfl rfl (by kernel_rfl) hp) hb.2.1) ?_
     refine D.on_pure (D.GO_refl _ _) [(7, .slice (adr g2) x5.length cp4), (55, .bool true)] (.slice (adr g2) x5.length cp4) (fun ac ww hk => (.cons (hk.1.trans (hK.at_ 7 _ rfl)) (.cons (hk.2.1) (.nil _)))) ?_
     refine D.on_op (fun uu ww => ∃ (c7r0_commands_g : Option Nat) (c7r0_commands_c : Nat), uu = .agg (G_Delta_cells y4 (adr c7r0_commands_g) c7r0_commands_c) ∧ Els is_G_Command (m9.upO none ww) 5 (adr c7r0_commands_g) c7r0_commands_c y4.commands) (fun _ _ _ ⟨c7r0_commands_g, c7r0_commands_c, e, c7r0_commands_f⟩ g => ⟨c7r0_commands_g, c7r0_commands_c, e, Els.mono rep_G_Command c7r0_commands_f g.1⟩) (by
      intro ac ww kk hlo hhi hb hk
      obtain rfl : kk = 0 := by omega
      have h0 := hS; replace hS := hb.2.1
      have k56 : ac.eval (.tmp 56) = .agg (G_Delta_cells a0 a0_commands_a a0_commands_c) := hk.1
      have k57 : ac.eval (.tmp 57) = .slice (adr g2) x5.length cp4 := hk.2.1
      have k55 : ac.eval (.tmp 55) = .bool true := hk.2.2.1
      have hKe : Ke ac [(56, .agg (G_Delta_cells a0 a0_commands_a a0_commands_c)), (57, .slice (adr g2) x5.length cp4), (55, .bool true)] := (.cons k56 (.cons k57 (.cons k55 (.nil _))))
      replace a0_commands_f := Els.mono rep_G_Command a0_commands_f hb.1
      replace f5 := Els.mono rep_G_Command f5 hb.1
      exact ⟨D.wantedE hKe (by kernel_rfl), D.callO h0 (fun bq hbq => hlt0 bq (by revert hbq; simp [blocksOf, Ent.box, rowOf, Ent.row]; try omega)) hb hKe ent28_7 rfl rfl rfl rfl (G.delta_With_spec a0_commands_f f5 hy11) (by kernel_rfl) (by rintro _ m' _ hg hn hl ⟨c7r0_commands_g, c7r0_commands_c, rfl, rfl, c7r0_commands_f⟩; exact ⟨c7r0_commands_g, c7r0_commands_c, rfl, Els.mono rep_G_Command c7r0_commands_f (hn rfl)⟩)⟩) ?_
     refine D.on_op (fun uu _ => uu = .agg #[.int .i64 y5.code, .int .i64 y5.at_]) (fun _ _ _ h _ => h) (by
      intro ac ww kk hlo hhi hb hk
      obtain rfl : kk = 0 := by omega
      have h0 := hS; replace hS := hb.2.1
      obtain ⟨c7r0_commands_g, c7r0_commands_c, k58, c7r0_commands_f⟩ : ∃ (c7r0_commands_g : Option Nat) (c7r0_commands_c : Nat), ac.eval (.tmp 58) = .agg (G_Delta_cells y4 (adr c7r0_commands_g) c7r0_commands_c) ∧ Els is_G_Command (m9.upO none ww) 5 (adr c7r0_commands_g) c7r0_commands_c y4.commands := hk.1
      have k55 : ac.eval (.tmp 55) = .bool true := hk.2.1
      have hKe : Ke ac [(58, .agg (G_Delta_cells y4 (adr c7r0_commands_g) c7r0_commands_c)), (55, .bool true)] := (.cons k58 (.cons k55 (.nil _)))
      exact ⟨D.wantedE hKe (by kernel_rfl), D.callO h0 (fun bq hbq => hlt0 bq (by revert hbq; simp [blocksOf, Ent.box, rowOf, Ent.row]; try omega)) hb hKe ent25_7 rfl rfl rfl rfl (G.delta_Check_spec c7r0_commands_f hy12) (by kernel_rfl) (by rintro _ m' _ hg hn hl ⟨rfl, rfl⟩; exact rfl)⟩) ?_
     refine D.on_pure (D.GO_refl _ _) [(6, .pointer (some ⟨b3, 0, none⟩)), (55, .bool true)] (.pointer (some ⟨b3, 1, none⟩)) (fun ac ww hk => (.cons (hk.1.trans (hK.at_ 6 _ rfl)) (.cons (hk.2.1) (.nil _)))) ?_
     refine D.on_det (D.GO_refl _ _) [(60, .pointer (some ⟨b3, 1, none⟩)), (55, .bool true)] (.int .i64 x1.to) (fun ac ww hk => (.cons (hk.1) (.cons (hk.2.1) (.nil _)))) (fun ac ww kk hb hKe Post hp => (fun hS => s_load hKe hS 2 rfl rfl rfl rfl (by kernel_rfl) hp) hb.2.1) ?_
     refine D.on_pure (D.GO_refl _ _) [(61, .int .i64 x1.to), (55, .bool true)] (.agg #[.int .i64 3, .int .i64 x1.to]) (fun ac ww hk => (.cons (hk.1) (.cons (hk.2.1) (.nil _)))) ?_
     refine D.on_pure (D.GO_refl _ _) [(59, .agg #[.int .i64 y5.code, .int .i64 y5.at_]), (62, .agg #[.int .i64 3, .int .i64 x1.to]), (55, .bool true)] (.bool true) (fun ac ww hk => (.cons (hk.1) (.cons (hk.2.1) (.cons (hk.2.2.1) (.nil _))))) (h := fun w => by exact Eq.trans (b := Result.ok (Next.value (.bool (decide (y5.code = 3 ∧ y5.at_ = x1.to)))) _) (by exact run_binAgg rfl rfl rfl (by kernel_rfl) (eqT30_7 _ _ _ _ _)) (by rw [hb3])) ?_
     refine D.on_pure (D.GO_refl _ _) [(55, .bool true), (63, .bool true)] (.bool true) (fun ac ww hk => (.cons (hk.1) (.cons (hk.2.1) (.nil _)))) ?_
     refine D.on_pure (D.GO_refl _ _) [(64, .bool true)] (.bool true) (fun ac ww hk => (.cons (hk.1) (.nil _))) ?_
     refine D.on_det (D.GO_refl _ _) [(2, .pointer (some ⟨b1, 0, none⟩)), (65, .bool true)] (.agg (G_Delta_cells a0 a0_commands_a a0_commands_c)) (fun ac ww hk => (.cons (hk.1.trans (hK.at_ 2 _ rfl)) (.cons (hk.2.1) (.nil _)))) (fun ac ww kk hb hKe Post hp => (fun hS => s_loadAll hKe hS 3 rfl rfl rfl (by kernel_rfl) hp) hb.2.1) ?_
     refine D.on_pure (D.GO_refl _ _) [(8, .slice (adr g4) x7.length cp6), (65, .bool true)] (.slice (adr g4) x7.length cp6) (fun ac ww hk => (.cons (hk.1.trans (hK.at_ 8 _ rfl)) (.cons (hk.2.1) (.nil _)))) ?_
     refine D.on_op (fun uu ww => ∃ (c9r0_commands_g : Option Nat) (c9r0_commands_c : Nat), uu = .agg (G_Delta_cells y6 (adr c9r0_commands_g) c9r0_commands_c) ∧ Els is_G_Command (m9.upO none ww) 5 (adr c9r0_commands_g) c9r0_commands_c y6.commands) (fun _ _ _ ⟨c9r0_commands_g, c9r0_commands_c, e, c9r0_commands_f⟩ g => ⟨c9r0_commands_g, c9r0_commands_c, e, Els.mono rep_G_Command c9r0_commands_f g.1⟩) (by
      intro ac ww kk hlo hhi hb hk
      obtain rfl : kk = 0 := by omega
      have h0 := hS; replace hS := hb.2.1
      have k66 : ac.eval (.tmp 66) = .agg (G_Delta_cells a0 a0_commands_a a0_commands_c) := hk.1
      have k67 : ac.eval (.tmp 67) = .slice (adr g4) x7.length cp6 := hk.2.1
      have k65 : ac.eval (.tmp 65) = .bool true := hk.2.2.1
      have hKe : Ke ac [(66, .agg (G_Delta_cells a0 a0_commands_a a0_commands_c)), (67, .slice (adr g4) x7.length cp6), (65, .bool true)] := (.cons k66 (.cons k67 (.cons k65 (.nil _))))
      replace a0_commands_f := Els.mono rep_G_Command a0_commands_f hb.1
      replace f9 := Els.mono rep_G_Command f9 hb.1
      exact ⟨D.wantedE hKe (by kernel_rfl), D.callO h0 (fun bq hbq => hlt0 bq (by revert hbq; simp [blocksOf, Ent.box, rowOf, Ent.row]; try omega)) hb hKe ent28_7 rfl rfl rfl rfl (G.delta_With_spec a0_commands_f f9 hy13) (by kernel_rfl) (by rintro _ m' _ hg hn hl ⟨c9r0_commands_g, c9r0_commands_c, rfl, rfl, c9r0_commands_f⟩; exact ⟨c9r0_commands_g, c9r0_commands_c, rfl, Els.mono rep_G_Command c9r0_commands_f (hn rfl)⟩)⟩) ?_
     refine D.on_op (fun uu _ => uu = .agg #[.int .i64 y7.code, .int .i64 y7.at_]) (fun _ _ _ h _ => h) (by
      intro ac ww kk hlo hhi hb hk
      obtain rfl : kk = 0 := by omega
      have h0 := hS; replace hS := hb.2.1
      obtain ⟨c9r0_commands_g, c9r0_commands_c, k68, c9r0_commands_f⟩ : ∃ (c9r0_commands_g : Option Nat) (c9r0_commands_c : Nat), ac.eval (.tmp 68) = .agg (G_Delta_cells y6 (adr c9r0_commands_g) c9r0_commands_c) ∧ Els is_G_Command (m9.upO none ww) 5 (adr c9r0_commands_g) c9r0_commands_c y6.commands := hk.1
      have k65 : ac.eval (.tmp 65) = .bool true := hk.2.1
      have hKe : Ke ac [(68, .agg (G_Delta_cells y6 (adr c9r0_commands_g) c9r0_commands_c)), (65, .bool true)] := (.cons k68 (.cons k65 (.nil _)))
      exact ⟨D.wantedE hKe (by kernel_rfl), D.callO h0 (fun bq hbq => hlt0 bq (by revert hbq; simp [blocksOf, Ent.box, rowOf, Ent.row]; try omega)) hb hKe ent25_7 rfl rfl rfl rfl (G.delta_Check_spec c9r0_commands_f hy14) (by kernel_rfl) (by rintro _ m' _ hg hn hl ⟨rfl, rfl⟩; exact rfl)⟩) ?_
     refine D.on_pure (D.GO_refl _ _) [(2, .pointer (some ⟨b1, 0, none⟩)), (65, .bool true)] (.pointer (some ⟨b1, 66, none⟩)) (fun ac ww hk => (.cons (hk.1.trans (hK.at_ 2 _ rfl)) (.cons (hk.2.1) (.nil _)))) ?_
     refine D.on_det (D.GO_refl _ _) [(70, .pointer (some ⟨b1, 66, none⟩)), (65, .bool true)] (.slice a0_commands_a a0.commands.length a0_commands_c) (fun ac ww hk => (.cons (hk.1) (.cons (hk.2.1) (.nil _)))) (fun ac ww kk hb hKe Post hp => (fun hS => s_load hKe hS 3 rfl rfl rfl rfl (by kernel_rfl) hp) hb.2.1) ?_
     refine D.on_pure (D.GO_refl _ _) [(71, .slice a0_commands_a a0.commands.length a0_commands_c), (65, .bool true)] (.int .i64 (a0.commands.length : Int)) (fun ac ww hk => (.cons (hk.1) (.cons (hk.2.1) (.nil _)))) ?_
     refine D.on_pure (D.GO_refl _ _) [(72, .int .i64 (a0.commands.length : Int)), (65, .bool true)] (.agg #[.int .i64 4, .int .i64 (a0.commands.length : Int)]) (fun ac ww hk => (.cons (hk.1) (.cons (hk.2.1) (.nil _)))) ?_
     refine D.finO ?_
     intro fr2 m10 hm1 l10 hS2 hF2 hE
     replace hS2 : St _ m m10 [rowOf 50 5 g4 cp6 x7, rowOf 50 5 g2 cp4 x5, .box b3 #[.int .i64 x1.kind, .int .i64 x1.to, .int .i64 x1.from_, .int .i64 x1.len, .slice e1_data_a x1.data.length e1_data_c] 50, .box b1 (G_Delta_cells a0 a0_commands_a a0_commands_c) 27] := hS2
     have hK2 := D.kn_ends [(54, .bool true), (55, .bool true), (56, .agg (G_Delta_cells a0 a0_commands_a a0_commands_c)), (57, .slice (adr g2) x5.length cp4), (58, fr2.eval (.tmp 58)), (59, .agg #[.int .i64 y5.code, .int .i64 y5.at_]), (60, .pointer (some ⟨b3, 1, none⟩)), (61, .int .i64 x1.to), (62, .agg #[.int .i64 3, .int .i64 x1.to]), (63, .bool true), (64, .bool true), (65, .bool true), (66, .agg (G_Delta_cells a0 a0_commands_a a0_commands_c)), (67, .slice (adr g4) x7.length cp6), (68, fr2.eval (.tmp 68)), (69, .agg #[.int .i64 y7.code, .int .i64 y7.at_]), (70, .pointer (some ⟨b1, 66, none⟩)), (71, .slice a0_commands_a a0.commands.length a0_commands_c), (72, .int .i64 (a0.commands.length : Int)), (73, .agg #[.int .i64 4, .int .i64 (a0.commands.length : Int)])] hK hE rfl (by kernel_rfl) (.cons (hE.slots 54) (.cons (hE.slots 55) (.cons (hE.slots 56) (.cons (hE.slots 57) (.cons (rfl) (.cons (hE.slots 59) (.cons (hE.slots 60) (.cons (hE.slots 61) (.cons (hE.slots 62) (.cons (hE.slots 63) (.cons (hE.slots 64) (.cons (hE.slots 65) (.cons (hE.slots 66) (.cons (hE.slots 67) (.cons (rfl) (.cons (hE.slots 69) (.cons (hE.slots 70) (.cons (hE.slots 71) (.cons (hE.slots 72) (.cons (hE.slots 73) (.nil _)))))))))))))))))))))
     replace hK2 : Kn 76 fr2 [(54, .bool true), (55, .bool true), (56, .agg (G_Delta_cells a0 a0_commands_a a0_commands_c)), (57, .slice (adr g2) x5.length cp4), (59, .agg #[.int .i64 y5.code, .int .i64 y5.at_]), (60, .pointer (some ⟨b3, 1, none⟩)), (61, .int .i64 x1.to), (62, .agg #[.int .i64 3, .int .i64 x1.to]), (63, .bool true), (64, .bool true), (65, .bool true), (66, .agg (G_Delta_cells a0 a0_commands_a a0_commands_c)), (67, .slice (adr g4) x7.length cp6), (69, .agg #[.int .i64 y7.code, .int .i64 y7.at_]), (70, .pointer (some ⟨b1, 66, none⟩)), (71, .slice a0_commands_a a0.commands.length a0_commands_c), (72, .int .i64 (a0.commands.length : Int)), (73, .agg #[.int .i64 4, .int .i64 (a0.commands.length : Int)]), (8, .slice (adr g4) x7.length cp6), (53, .slice (adr g4) x7.length cp6), (47, .slice (adr (some b5)) (([] : List G.Command).length) 0), (48, .pointer (some ⟨b1, 66, none⟩)), (49, .slice a0_commands_a a0.commands.length a0_commands_c), (50, .slice (adr g3) x6.length cp5), (51, .agg #[.int .i64 x1.kind, .int .i64 x1.to, .int .i64 x1.from_, .int .i64 x1.len, .slice e1_data_a x1.data.length e1_data_c]), (52, .slice (some ⟨b6, 0, none⟩) (([x1] : List G.Command).length) 1), (7, .slice (adr g2) x5.length cp4), (46, .slice (adr g2) x5.length cp4), (35, .slice (adr (some b4)) (([] : List G.Command).length) 0), (36, .pointer (some ⟨b1, 66, none⟩)), (37, .slice a0_commands_a a0.commands.length a0_commands_c), (38, .int .i64 (Int.tmod (a1.toNat : Int) (a0.commands.length : Int))), (40, .slice (adr g1) x3.length cp2), (41, .pointer (some ⟨b1, 66, none⟩)), (42, .slice a0_commands_a a0.commands.length a0_commands_c), (43, .int .i64 (Int.tmod (a1.toNat : Int) (a0.commands.length : Int))), (44, .int .i64 (IntKind.i64.wrap ((Int.tmod (a1.toNat : Int) (a0.commands.length : Int)) + 1))), (45, .slice ad2 x4.length cp3), (6, .pointer (some ⟨b3, 0, none⟩)), (34, .agg #[.int .i64 x1.kind, .int .i64 x1.to, .int .i64 x1.from_, .int .i64 x1.len, .slice e1_data_a x1.data.length e1_data_c]), (33, .pointer (some ⟨b2, p1, none⟩)), (32, .int .i64 (Int.tmod (a1.toNat : Int) (a0.commands.length : Int))), (31, .slice a0_commands_a a0.commands.length a0_commands_c), (30, .pointer (some ⟨b1, 66, none⟩)), (5, .int .i64 (Int.tmod (a1.toNat : Int) (a0.commands.length : Int))), (29, .int .i64 (Int.tmod (a1.toNat : Int) (a0.commands.length : Int))), (28, .int .i64 (a0.commands.length : Int)), (27, .slice a0_commands_a a0.commands.length a0_commands_c), (26, .pointer (some ⟨b1, 66, none⟩)), (25, .int .i64 (a1.toNat : Int)), (24, .int .u8 (a1.toNat : Int)), (22, .bool false), (1, .int .u8 (a1.toNat : Int)), (2, .pointer (some ⟨b1, 0, none⟩))] := hK2.only [54, 55, 56, 57, 59, 60, 61, 62, 63, 64, 65, 66, 67, 69, 70, 71, 72, 73, 8, 53, 47, 48, 49, 50, 51, 52, 7, 46, 35, 36, 37, 38, 40, 41, 42, 43, 44, 45, 6, 34, 33, 32, 31, 30, 5, 29, 28, 27, 26, 25, 24, 22, 1, 2]
     clear hE hK; revert hK2; clear hm1 hS hlt0; revert fr2; clear fr; intro fr hK; have hS := hS2; clear hS2
     replace hS : St _ m m10 [rowOf 50 5 g4 cp6 x7, rowOf 50 5 g2 cp4 x5, .box b3 #[.int .i64 x1.kind, .int .i64 x1.to, .int .i64 x1.from_, .int .i64 x1.len, .slice e1_data_a x1.data.length e1_data_c] 50, .box b1 (G_Delta_cells a0 a0_commands_a a0_commands_c) 27] := hS
     refine qr 74 (.bool (decide (y7.code = 4 ∧ y7.at_ = (a0.commands.length : Int)))) hK (by exact run_binAgg rfl rfl rfl (by kernel_rfl) (eqT30_7 _ _ _ _ _)) ?_
     clear hK fr; intro fr hK
     refine qp 75 (.bool (decide (y7.code = 4 ∧ y7.at_ = (a0.commands.length : Int)))) hK fun fr hK => ?_
     refine qp 4 (.bool (decide (y7.code = 4 ∧ y7.at_ = (a0.commands.length : Int)))) hK fun fr hK => ?_
     refine wpListIn_nil (then_n ?_)
     refine wpIn_ret ?_
     replace h := Option.some.inj h; subst h
     refine ret_of [.tmp 4] [.bool (decide (y7.code = 4 ∧ y7.at_ = (a0.commands.length : Int)))] rfl hK (.tmp rfl .nil) hS.dropAll ?_
     exact ⟨rfl, rfl⟩
    ·
     replace h := ite_f (of_decide_eq_false hb3) h
     have hlt0 : ∀ bq ∈ blocksOf [rowOf 50 5 g4 cp6 x7, rowOf 50 5 g2 cp4 x5, .box b3 #[.int .i64 x1.kind, .int .i64 x1.to, .int .i64 x1.from_, .int .i64 x1.len, .slice e1_data_a x1.data.length e1_data_c] 50, .box b1 (G_Delta_cells a0 a0_commands_a a0_commands_c) 27], bq < m9.w.heap.size := fun bq hbq => hS.ow.lt hbq
     refine D.wp_draw (Gr := D.GO m9 none) (S := D.SO none (blocksOf []) m m9 (fun _ => [rowOf 50 5 g4 cp6 x7, rowOf 50 5 g2 cp4 x5, .box b3 #[.int .i64 x1.kind, .int .i64 x1.to, .int .i64 x1.from_, .int .i64 x1.len, .slice e1_data_a x1.data.length e1_data_c] 50, .box b1 (G_Delta_cells a0 a0_commands_a a0_commands_c) 27]) (fun _ => True)) (N := 0) 20 [] [([], 0, 0, false), ([(54, some 0)], 0, 0, false), ([(2, none), (55, some 0)], 0, 0, false), ([(7, none), (55, some 1)], 0, 0, false), ([(56, some 1), (57, some 0), (55, some 2)], 0, 0, false), ([(58, some 0), (55, some 3)], 0, 0, false), ([(6, none), (55, some 4)], 0, 0, false), ([(60, some 0), (55, some 5)], 0, 0, false), ([(61, some 0), (55, some 6)], 0, 0, false), ([(59, some 3), (62, some 0), (55, some 7)], 0, 0, false), ([(55, some 8), (63, some 0)], 0, 0, false), ([(64, some 0)], 0, 0, false), ([(2, none), (65, some 0)], 0, 0, false), ([(8, none), (65, some 1)], 0, 0, false), ([(66, some 1), (67, some 0), (65, some 2)], 0, 0, false), ([(68, some 0), (65, some 3)], 0, 0, false), ([(2, none), (65, some 4)], 0, 0, false), ([(70, some 0), (65, some 5)], 0, 0, false), ([(71, some 0), (65, some 6)], 0, 0, false), ([(72, some 0), (65, some 7)], 0, 0, false)] hK.size (by kernel_rfl) (by kernel_rfl) (by kernel_rfl) rfl (D.startO hS trivial) ?_
     refine D.on_op (fun uu _ => uu = .bool true) (fun _ _ _ h _ => h) (by
      intro ac ww kk hlo hhi hb hk
      obtain rfl : kk = 0 := by omega
      have h0 := hS; replace hS := hb.2.1
      have hKe : Ke ac [] := (.nil _)
      exact ⟨D.wanted0 rfl, D.callO h0 (fun bq hbq => hlt0 bq (by revert hbq; simp [blocksOf, Ent.box, rowOf, Ent.row]; try omega)) hb hKe ent23_7 rfl rfl rfl rfl (G.graftlaw05_alive_spec hy10) (by kernel_rfl) (by rintro _ m' _ hg hn hl ⟨rfl, rfl⟩; exact (by rw [hb2]))⟩) ?_
     refine D.on_pure (D.GO_refl _ _) [(54, .bool true)] (.bool true) (fun ac ww hk => (.cons (hk.1) (.nil _))) ?_
     refine D.on_det (D.GO_refl _ _) [(2, .pointer (some ⟨b1, 0, none⟩)), (55, .bool true)] (.agg (G_Delta_cells a0 a0_commands_a a0_commands_c)) (fun ac ww hk => (.cons (hk.1.trans (hK.at_ 2 _ rfl)) (.cons (hk.2.1) (.nil _)))) (fun ac ww kk hb hKe Post hp => (fun hS => s_loadAll hKe hS 3 rfl rfl rfl (by kernel_rfl) hp) hb.2.1) ?_
     refine D.on_pure (D.GO_refl _ _) [(7, .slice (adr g2) x5.length cp4), (55, .bool true)] (.slice (adr g2) x5.length cp4) (fun ac ww hk => (.cons (hk.1.trans (hK.at_ 7 _ rfl)) (.cons (hk.2.1) (.nil _)))) ?_
     refine D.on_op (fun uu ww => ∃ (c12r0_commands_g : Option Nat) (c12r0_commands_c : Nat), uu = .agg (G_Delta_cells y4 (adr c12r0_commands_g) c12r0_commands_c) ∧ Els is_G_Command (m9.upO none ww) 5 (adr c12r0_commands_g) c12r0_commands_c y4.commands) (fun _ _ _ ⟨c12r0_commands_g, c12r0_commands_c, e, c12r0_commands_f⟩ g => ⟨c12r0_commands_g, c12r0_commands_c, e, Els.mono rep_G_Command c12r0_commands_f g.1⟩) (by
      intro ac ww kk hlo hhi hb hk
      obtain rfl : kk = 0 := by omega
      have h0 := hS; replace hS := hb.2.1
      have k56 : ac.eval (.tmp 56) = .agg (G_Delta_cells a0 a0_commands_a a0_commands_c) := hk.1
      have k57 : ac.eval (.tmp 57) = .slice (adr g2) x5.length cp4 := hk.2.1
      have k55 : ac.eval (.tmp 55) = .bool true := hk.2.2.1
      have hKe : Ke ac [(56, .agg (G_Delta_cells a0 a0_commands_a a0_commands_c)), (57, .slice (adr g2) x5.length cp4), (55, .bool true)] := (.cons k56 (.cons k57 (.cons k55 (.nil _))))
      replace a0_commands_f := Els.mono rep_G_Command a0_commands_f hb.1
      replace f5 := Els.mono rep_G_Command f5 hb.1
      exact ⟨D.wantedE hKe (by kernel_rfl), D.callO h0 (fun bq hbq => hlt0 bq (by revert hbq; simp [blocksOf, Ent.box, rowOf, Ent.row]; try omega)) hb hKe ent28_7 rfl rfl rfl rfl (G.delta_With_spec a0_commands_f f5 hy11) (by kernel_rfl) (by rintro _ m' _ hg hn hl ⟨c12r0_commands_g, c12r0_commands_c, rfl, rfl, c12r0_commands_f⟩; exact ⟨c12r0_commands_g, c12r0_commands_c, rfl, Els.mono rep_G_Command c12r0_commands_f (hn rfl)⟩)⟩) ?_
     refine D.on_op (fun uu _ => uu = .agg #[.int .i64 y5.code, .int .i64 y5.at_]) (fun _ _ _ h _ => h) (by
      intro ac ww kk hlo hhi hb hk
      obtain rfl : kk = 0 := by omega
      have h0 := hS; replace hS := hb.2.1
      obtain ⟨c12r0_commands_g, c12r0_commands_c, k58, c12r0_commands_f⟩ : ∃ (c12r0_commands_g : Option Nat) (c12r0_commands_c : Nat), ac.eval (.tmp 58) = .agg (G_Delta_cells y4 (adr c12r0_commands_g) c12r0_commands_c) ∧ Els is_G_Command (m9.upO none ww) 5 (adr c12r0_commands_g) c12r0_commands_c y4.commands := hk.1
      have k55 : ac.eval (.tmp 55) = .bool true := hk.2.1
      have hKe : Ke ac [(58, .agg (G_Delta_cells y4 (adr c12r0_commands_g) c12r0_commands_c)), (55, .bool true)] := (.cons k58 (.cons k55 (.nil _)))
      exact ⟨D.wantedE hKe (by kernel_rfl), D.callO h0 (fun bq hbq => hlt0 bq (by revert hbq; simp [blocksOf, Ent.box, rowOf, Ent.row]; try omega)) hb hKe ent25_7 rfl rfl rfl rfl (G.delta_Check_spec c12r0_commands_f hy12) (by kernel_rfl) (by rintro _ m' _ hg hn hl ⟨rfl, rfl⟩; exact rfl)⟩) ?_
     refine D.on_pure (D.GO_refl _ _) [(6, .pointer (some ⟨b3, 0, none⟩)), (55, .bool true)] (.pointer (some ⟨b3, 1, none⟩)) (fun ac ww hk => (.cons (hk.1.trans (hK.at_ 6 _ rfl)) (.cons (hk.2.1) (.nil _)))) ?_
     refine D.on_det (D.GO_refl _ _) [(60, .pointer (some ⟨b3, 1, none⟩)), (55, .bool true)] (.int .i64 x1.to) (fun ac ww hk => (.cons (hk.1) (.cons (hk.2.1) (.nil _)))) (fun ac ww kk hb hKe Post hp => (fun hS => s_load hKe hS 2 rfl rfl rfl rfl (by kernel_rfl) hp) hb.2.1) ?_
     refine D.on_pure (D.GO_refl _ _) [(61, .int .i64 x1.to), (55, .bool true)] (.agg #[.int .i64 3, .int .i64 x1.to]) (fun ac ww hk => (.cons (hk.1) (.cons (hk.2.1) (.nil _)))) ?_
     refine D.on_pure (D.GO_refl _ _) [(59, .agg #[.int .i64 y5.code, .int .i64 y5.at_]), (62, .agg #[.int .i64 3, .int .i64 x1.to]), (55, .bool true)] (.bool false) (fun ac ww hk => (.cons (hk.1) (.cons (hk.2.1) (.cons (hk.2.2.1) (.nil _))))) (h := fun w => by exact Eq.trans (b := Result.ok (Next.value (.bool (decide (y5.code = 3 ∧ y5.at_ = x1.to)))) _) (by exact run_binAgg rfl rfl rfl (by kernel_rfl) (eqT30_7 _ _ _ _ _)) (by rw [hb3])) ?_
     refine D.on_pure (D.GO_refl _ _) [(55, .bool true), (63, .bool false)] (.bool false) (fun ac ww hk => (.cons (hk.1) (.cons (hk.2.1) (.nil _)))) ?_
     refine D.on_pure (D.GO_refl _ _) [(64, .bool false)] (.bool false) (fun ac ww hk => (.cons (hk.1) (.nil _))) ?_
     refine D.on_no [(65, .bool false)] (fun ac ww hk => .cons (hk.2.1) (.nil _)) ?_
     refine D.on_no [(65, .bool false)] (fun ac ww hk => .cons (hk.2.1) (.nil _)) ?_
     refine D.on_no [(65, .bool false)] (fun ac ww hk => .cons (hk.2.2.1) (.nil _)) ?_
     refine D.on_no [(65, .bool false)] (fun ac ww hk => .cons (hk.2.1) (.nil _)) ?_
     refine D.on_no [(65, .bool false)] (fun ac ww hk => .cons (hk.2.1) (.nil _)) ?_
     refine D.on_no [(65, .bool false)] (fun ac ww hk => .cons (hk.2.1) (.nil _)) ?_
     refine D.on_no [(65, .bool false)] (fun ac ww hk => .cons (hk.2.1) (.nil _)) ?_
     refine D.on_no [(65, .bool false)] (fun ac ww hk => .cons (hk.2.1) (.nil _)) ?_
     refine D.finO ?_
     intro fr2 m11 hm1 l11 hS2 hF2 hE
     replace hS2 : St _ m m11 [rowOf 50 5 g4 cp6 x7, rowOf 50 5 g2 cp4 x5, .box b3 #[.int .i64 x1.kind, .int .i64 x1.to, .int .i64 x1.from_, .int .i64 x1.len, .slice e1_data_a x1.data.length e1_data_c] 50, .box b1 (G_Delta_cells a0 a0_commands_a a0_commands_c) 27] := hS2
     have hK2 := D.kn_ends [(54, .bool true), (55, .bool true), (56, .agg (G_Delta_cells a0 a0_commands_a a0_commands_c)), (57, .slice (adr g2) x5.length cp4), (58, fr2.eval (.tmp 58)), (59, .agg #[.int .i64 y5.code, .int .i64 y5.at_]), (60, .pointer (some ⟨b3, 1, none⟩)), (61, .int .i64 x1.to), (62, .agg #[.int .i64 3, .int .i64 x1.to]), (63, .bool false), (64, .bool false), (65, .bool false), (66, undef), (67, undef), (68, undef), (69, undef), (70, undef), (71, undef), (72, undef), (73, undef)] hK hE rfl (by kernel_rfl) (.cons (hE.slots 54) (.cons (hE.slots 55) (.cons (hE.slots 56) (.cons (hE.slots 57) (.cons (rfl) (.cons (hE.slots 59) (.cons (hE.slots 60) (.cons (hE.slots 61) (.cons (hE.slots 62) (.cons (hE.slots 63) (.cons (hE.slots 64) (.cons (hE.slots 65) (.cons (hE.slots 66) (.cons (hE.slots 67) (.cons (hE.slots 68) (.cons (hE.slots 69) (.cons (hE.slots 70) (.cons (hE.slots 71) (.cons (hE.slots 72) (.cons (hE.slots 73) (.nil _)))))))))))))))))))))
     replace hK2 : Kn 76 fr2 [(54, .bool true), (55, .bool true), (56, .agg (G_Delta_cells a0 a0_commands_a a0_commands_c)), (57, .slice (adr g2) x5.length cp4), (59, .agg #[.int .i64 y5.code, .int .i64 y5.at_]), (60, .pointer (some ⟨b3, 1, none⟩)), (61, .int .i64 x1.to), (62, .agg #[.int .i64 3, .int .i64 x1.to]), (63, .bool false), (64, .bool false), (65, .bool false), (66, undef), (67, undef), (68, undef), (69, undef), (70, undef), (71, undef), (72, undef), (73, undef), (8, .slice (adr g4) x7.length cp6), (53, .slice (adr g4) x7.length cp6), (47, .slice (adr (some b5)) (([] : List G.Command).length) 0), (48, .pointer (some ⟨b1, 66, none⟩)), (49, .slice a0_commands_a a0.commands.length a0_commands_c), (50, .slice (adr g3) x6.length cp5), (51, .agg #[.int .i64 x1.kind, .int .i64 x1.to, .int .i64 x1.from_, .int .i64 x1.len, .slice e1_data_a x1.data.length e1_data_c]), (52, .slice (some ⟨b6, 0, none⟩) (([x1] : List G.Command).length) 1), (7, .slice (adr g2) x5.length cp4), (46, .slice (adr g2) x5.length cp4), (35, .slice (adr (some b4)) (([] : List G.Command).length) 0), (36, .pointer (some ⟨b1, 66, none⟩)), (37, .slice a0_commands_a a0.commands.length a0_commands_c), (38, .int .i64 (Int.tmod (a1.toNat : Int) (a0.commands.length : Int))), (40, .slice (adr g1) x3.length cp2), (41, .pointer (some ⟨b1, 66, none⟩)), (42, .slice a0_commands_a a0.commands.length a0_commands_c), (43, .int .i64 (Int.tmod (a1.toNat : Int) (a0.commands.length : Int))), (44, .int .i64 (IntKind.i64.wrap ((Int.tmod (a1.toNat : Int) (a0.commands.length : Int)) + 1))), (45, .slice ad2 x4.length cp3), (6, .pointer (some ⟨b3, 0, none⟩)), (34, .agg #[.int .i64 x1.kind, .int .i64 x1.to, .int .i64 x1.from_, .int .i64 x1.len, .slice e1_data_a x1.data.length e1_data_c]), (33, .pointer (some ⟨b2, p1, none⟩)), (32, .int .i64 (Int.tmod (a1.toNat : Int) (a0.commands.length : Int))), (31, .slice a0_commands_a a0.commands.length a0_commands_c), (30, .pointer (some ⟨b1, 66, none⟩)), (5, .int .i64 (Int.tmod (a1.toNat : Int) (a0.commands.length : Int))), (29, .int .i64 (Int.tmod (a1.toNat : Int) (a0.commands.length : Int))), (28, .int .i64 (a0.commands.length : Int)), (27, .slice a0_commands_a a0.commands.length a0_commands_c), (26, .pointer (some ⟨b1, 66, none⟩)), (25, .int .i64 (a1.toNat : Int)), (24, .int .u8 (a1.toNat : Int)), (22, .bool false), (1, .int .u8 (a1.toNat : Int)), (2, .pointer (some ⟨b1, 0, none⟩))] := hK2.only [54, 55, 56, 57, 59, 60, 61, 62, 63, 64, 65, 66, 67, 68, 69, 70, 71, 72, 73, 8, 53, 47, 48, 49, 50, 51, 52, 7, 46, 35, 36, 37, 38, 40, 41, 42, 43, 44, 45, 6, 34, 33, 32, 31, 30, 5, 29, 28, 27, 26, 25, 24, 22, 1, 2]
     clear hE hK; revert hK2; clear hm1 hS hlt0; revert fr2; clear fr; intro fr hK; have hS := hS2; clear hS2
     replace hS : St _ m m11 [rowOf 50 5 g4 cp6 x7, rowOf 50 5 g2 cp4 x5, .box b3 #[.int .i64 x1.kind, .int .i64 x1.to, .int .i64 x1.from_, .int .i64 x1.len, .slice e1_data_a x1.data.length e1_data_c] 50, .box b1 (G_Delta_cells a0 a0_commands_a a0_commands_c) 27] := hS
     refine qs 74 hK ?_
     clear hK fr; intro fr hK
     refine qp 75 (.bool false) hK fun fr hK => ?_
     refine qp 4 (.bool false) hK fun fr hK => ?_
     refine wpListIn_nil (then_n ?_)
     refine wpIn_ret ?_
     replace h := Option.some.inj h; subst h
     refine ret_of [.tmp 4] [.bool false] rfl hK (.tmp rfl .nil) hS.dropAll ?_
     exact ⟨rfl, rfl⟩
   ·
    replace h := ite_f (ne_true_of_eq_false hb2) h
    have hlt0 : ∀ bq ∈ blocksOf [rowOf 50 5 g4 cp6 x7, rowOf 50 5 g2 cp4 x5, .box b3 #[.int .i64 x1.kind, .int .i64 x1.to, .int .i64 x1.from_, .int .i64 x1.len, .slice e1_data_a x1.data.length e1_data_c] 50, .box b1 (G_Delta_cells a0 a0_commands_a a0_commands_c) 27], bq < m9.w.heap.size := fun bq hbq => hS.ow.lt hbq
    refine D.wp_draw (Gr := D.GO m9 none) (S := D.SO none (blocksOf []) m m9 (fun _ => [rowOf 50 5 g4 cp6 x7, rowOf 50 5 g2 cp4 x5, .box b3 #[.int .i64 x1.kind, .int .i64 x1.to, .int .i64 x1.from_, .int .i64 x1.len, .slice e1_data_a x1.data.length e1_data_c] 50, .box b1 (G_Delta_cells a0 a0_commands_a a0_commands_c) 27]) (fun _ => True)) (N := 0) 20 [] [([], 0, 0, false), ([(54, some 0)], 0, 0, false), ([(2, none), (55, some 0)], 0, 0, false), ([(7, none), (55, some 1)], 0, 0, false), ([(56, some 1), (57, some 0), (55, some 2)], 0, 0, false), ([(58, some 0), (55, some 3)], 0, 0, false), ([(6, none), (55, some 4)], 0, 0, false), ([(60, some 0), (55, some 5)], 0, 0, false), ([(61, some 0), (55, some 6)], 0, 0, false), ([(59, some 3), (62, some 0), (55, some 7)], 0, 0, false), ([(55, some 8), (63, some 0)], 0, 0, false), ([(64, some 0)], 0, 0, false), ([(2, none), (65, some 0)], 0, 0, false), ([(8, none), (65, some 1)], 0, 0, false), ([(66, some 1), (67, some 0), (65, some 2)], 0, 0, false), ([(68, some 0), (65, some 3)], 0, 0, false), ([(2, none), (65, some 4)], 0, 0, false), ([(70, some 0), (65, some 5)], 0, 0, false), ([(71, some 0), (65, some 6)], 0, 0, false), ([(72, some 0), (65, some 7)], 0, 0, false)] hK.size (by kernel_rfl) (by kernel_rfl) (by kernel_rfl) rfl (D.startO hS trivial) ?_
    refine D.on_op (fun uu _ => uu = .bool false) (fun _ _ _ h _ => h) (by
     intro ac ww kk hlo hhi hb hk
     obtain rfl : kk = 0 := by omega
     have h0 := hS; replace hS := hb.2.1
     have hKe : Ke ac [] := (.nil _)
     exact ⟨D.wanted0 rfl, D.callO h0 (fun bq hbq => hlt0 bq (by revert hbq; simp [blocksOf, Ent.box, rowOf, Ent.row]; try omega)) hb hKe ent23_7 rfl rfl rfl rfl (G.graftlaw05_alive_spec hy10) (by kernel_rfl) (by rintro _ m' _ hg hn hl ⟨rfl, rfl⟩; exact (by rw [hb2]))⟩) ?_
    refine D.on_pure (D.GO_refl _ _) [(54, .bool false)] (.bool false) (fun ac ww hk => (.cons (hk.1) (.nil _))) ?_
    refine D.on_no [(55, .bool false)] (fun ac ww hk => .cons (hk.2.1) (.nil _)) ?_
    refine D.on_no [(55, .bool false)] (fun ac ww hk => .cons (hk.2.1) (.nil _)) ?_
    refine D.on_no [(55, .bool false)] (fun ac ww hk => .cons (hk.2.2.1) (.nil _)) ?_
    refine D.on_no [(55, .bool false)] (fun ac ww hk => .cons (hk.2.1) (.nil _)) ?_
    refine D.on_no [(55, .bool false)] (fun ac ww hk => .cons (hk.2.1) (.nil _)) ?_
    refine D.on_no [(55, .bool false)] (fun ac ww hk => .cons (hk.2.1) (.nil _)) ?_
    refine D.on_no [(55, .bool false)] (fun ac ww hk => .cons (hk.2.1) (.nil _)) ?_
    refine D.on_no [(55, .bool false)] (fun ac ww hk => .cons (hk.2.2.1) (.nil _)) ?_
    refine D.on_pure (D.GO_refl _ _) [(55, .bool false), (63, undef)] (.bool false) (fun ac ww hk => (.cons (hk.1) (.cons (hk.2.1) (.nil _)))) ?_
    refine D.on_pure (D.GO_refl _ _) [(64, .bool false)] (.bool false) (fun ac ww hk => (.cons (hk.1) (.nil _))) ?_
    refine D.on_no [(65, .bool false)] (fun ac ww hk => .cons (hk.2.1) (.nil _)) ?_
    refine D.on_no [(65, .bool false)] (fun ac ww hk => .cons (hk.2.1) (.nil _)) ?_
    refine D.on_no [(65, .bool false)] (fun ac ww hk => .cons (hk.2.2.1) (.nil _)) ?_
    refine D.on_no [(65, .bool false)] (fun ac ww hk => .cons (hk.2.1) (.nil _)) ?_
    refine D.on_no [(65, .bool false)] (fun ac ww hk => .cons (hk.2.1) (.nil _)) ?_
    refine D.on_no [(65, .bool false)] (fun ac ww hk => .cons (hk.2.1) (.nil _)) ?_
    refine D.on_no [(65, .bool false)] (fun ac ww hk => .cons (hk.2.1) (.nil _)) ?_
    refine D.on_no [(65, .bool false)] (fun ac ww hk => .cons (hk.2.1) (.nil _)) ?_
    refine D.finO ?_
    intro fr2 m12 hm1 l12 hS2 hF2 hE
    replace hS2 : St _ m m12 [rowOf 50 5 g4 cp6 x7, rowOf 50 5 g2 cp4 x5, .box b3 #[.int .i64 x1.kind, .int .i64 x1.to, .int .i64 x1.from_, .int .i64 x1.len, .slice e1_data_a x1.data.length e1_data_c] 50, .box b1 (G_Delta_cells a0 a0_commands_a a0_commands_c) 27] := hS2
    have hK2 := D.kn_ends [(54, .bool false), (55, .bool false), (56, undef), (57, undef), (58, undef), (59, undef), (60, undef), (61, undef), (62, undef), (63, undef), (64, .bool false), (65, .bool false), (66, undef), (67, undef), (68, undef), (69, undef), (70, undef), (71, undef), (72, undef), (73, undef)] hK hE rfl (by kernel_rfl) (.cons (hE.slots 54) (.cons (hE.slots 55) (.cons (hE.slots 56) (.cons (hE.slots 57) (.cons (hE.slots 58) (.cons (hE.slots 59) (.cons (hE.slots 60) (.cons (hE.slots 61) (.cons (hE.slots 62) (.cons (hE.slots 63) (.cons (hE.slots 64) (.cons (hE.slots 65) (.cons (hE.slots 66) (.cons (hE.slots 67) (.cons (hE.slots 68) (.cons (hE.slots 69) (.cons (hE.slots 70) (.cons (hE.slots 71) (.cons (hE.slots 72) (.cons (hE.slots 73) (.nil _)))))))))))))))))))))
    replace hK2 : Kn 76 fr2 [(54, .bool false), (55, .bool false), (56, undef), (57, undef), (58, undef), (59, undef), (60, undef), (61, undef), (62, undef), (63, undef), (64, .bool false), (65, .bool false), (66, undef), (67, undef), (68, undef), (69, undef), (70, undef), (71, undef), (72, undef), (73, undef), (8, .slice (adr g4) x7.length cp6), (53, .slice (adr g4) x7.length cp6), (47, .slice (adr (some b5)) (([] : List G.Command).length) 0), (48, .pointer (some ⟨b1, 66, none⟩)), (49, .slice a0_commands_a a0.commands.length a0_commands_c), (50, .slice (adr g3) x6.length cp5), (51, .agg #[.int .i64 x1.kind, .int .i64 x1.to, .int .i64 x1.from_, .int .i64 x1.len, .slice e1_data_a x1.data.length e1_data_c]), (52, .slice (some ⟨b6, 0, none⟩) (([x1] : List G.Command).length) 1), (7, .slice (adr g2) x5.length cp4), (46, .slice (adr g2) x5.length cp4), (35, .slice (adr (some b4)) (([] : List G.Command).length) 0), (36, .pointer (some ⟨b1, 66, none⟩)), (37, .slice a0_commands_a a0.commands.length a0_commands_c), (38, .int .i64 (Int.tmod (a1.toNat : Int) (a0.commands.length : Int))), (40, .slice (adr g1) x3.length cp2), (41, .pointer (some ⟨b1, 66, none⟩)), (42, .slice a0_commands_a a0.commands.length a0_commands_c), (43, .int .i64 (Int.tmod (a1.toNat : Int) (a0.commands.length : Int))), (44, .int .i64 (IntKind.i64.wrap ((Int.tmod (a1.toNat : Int) (a0.commands.length : Int)) + 1))), (45, .slice ad2 x4.length cp3), (6, .pointer (some ⟨b3, 0, none⟩)), (34, .agg #[.int .i64 x1.kind, .int .i64 x1.to, .int .i64 x1.from_, .int .i64 x1.len, .slice e1_data_a x1.data.length e1_data_c]), (33, .pointer (some ⟨b2, p1, none⟩)), (32, .int .i64 (Int.tmod (a1.toNat : Int) (a0.commands.length : Int))), (31, .slice a0_commands_a a0.commands.length a0_commands_c), (30, .pointer (some ⟨b1, 66, none⟩)), (5, .int .i64 (Int.tmod (a1.toNat : Int) (a0.commands.length : Int))), (29, .int .i64 (Int.tmod (a1.toNat : Int) (a0.commands.length : Int))), (28, .int .i64 (a0.commands.length : Int)), (27, .slice a0_commands_a a0.commands.length a0_commands_c), (26, .pointer (some ⟨b1, 66, none⟩)), (25, .int .i64 (a1.toNat : Int)), (24, .int .u8 (a1.toNat : Int)), (22, .bool false), (1, .int .u8 (a1.toNat : Int)), (2, .pointer (some ⟨b1, 0, none⟩))] := hK2.only [54, 55, 56, 57, 58, 59, 60, 61, 62, 63, 64, 65, 66, 67, 68, 69, 70, 71, 72, 73, 8, 53, 47, 48, 49, 50, 51, 52, 7, 46, 35, 36, 37, 38, 40, 41, 42, 43, 44, 45, 6, 34, 33, 32, 31, 30, 5, 29, 28, 27, 26, 25, 24, 22, 1, 2]
    clear hE hK; revert hK2; clear hm1 hS hlt0; revert fr2; clear fr; intro fr hK; have hS := hS2; clear hS2
    replace hS : St _ m m12 [rowOf 50 5 g4 cp6 x7, rowOf 50 5 g2 cp4 x5, .box b3 #[.int .i64 x1.kind, .int .i64 x1.to, .int .i64 x1.from_, .int .i64 x1.len, .slice e1_data_a x1.data.length e1_data_c] 50, .box b1 (G_Delta_cells a0 a0_commands_a a0_commands_c) 27] := hS
    refine qs 74 hK ?_
    clear hK fr; intro fr hK
    refine qp 75 (.bool false) hK fun fr hK => ?_
    refine qp 4 (.bool false) hK fun fr hK => ?_
    refine wpListIn_nil (then_n ?_)
    refine wpIn_ret ?_
    replace h := Option.some.inj h; subst h
    refine ret_of [.tmp 4] [.bool false] rfl hK (.tmp rfl .nil) hS.dropAll ?_
    exact ⟨rfl, rfl⟩
 ·
  replace h := hv1; clear hv1
  refine w_region ?_
  refine qo 9 hK (s_loadAll hK.at_ hS 0 rfl rfl rfl (by kernel_rfl) ?_)
  clear hK fr; intro fr hK
  replace a0_commands_f := Els.mono rep_G_Command a0_commands_f l1
  obtain ⟨y8, hy15, h⟩ := bind_some h
  refine qo 10 hK (s_call hK.at_ hS ent17_7 rfl rfl rfl rfl (G.graftref05_Few_spec a0_commands_f hy15) (by kernel_rfl) ?_)
  clear hK fr hS; rintro _ m13 _ l13 hS ⟨rfl, rfl⟩ fr hK
  replace hS : St _ m m13 [.box b1 (G_Delta_cells a0 a0_commands_a a0_commands_c) 27] := hS
  refine qp 11 (.bool (!y8)) hK fun fr hK => ?_
  refine qp 12 (.bool (!y8)) hK fun fr hK => ?_
  refine split_b (x := (!y8)) (fun hb4 => ?_) (fun hb4 => ?_)
  ·
   replace hK := hK.more (t := 12) (v' := .bool true) rfl (by rw [hb4])
   replace hK := hK.more (t := 11) (v' := .bool true) rfl (by rw [hb4])
   replace h := ite_t ((Bool.not_eq_true' _).mp hb4) h
   refine qs 13 hK ?_
   clear hK fr; intro fr hK
   refine qs 14 hK ?_
   clear hK fr; intro fr hK
   refine qs 15 hK ?_
   clear hK fr; intro fr hK
   refine qp 16 (.bool true) hK fun fr hK => ?_
   refine qp 17 (.bool true) hK fun fr hK => ?_
   refine qs 18 hK ?_
   clear hK fr; intro fr hK
   refine qs 19 hK ?_
   clear hK fr; intro fr hK
   refine qs 20 hK ?_
   clear hK fr; intro fr hK
   refine qs 21 hK ?_
   clear hK fr; intro fr hK
   refine qp 22 (.bool true) hK fun fr hK => ?_
   refine wpListIn_nil (then_n ?_)
   replace hS : St _ m m13 [.box b1 (G_Delta_cells a0 a0_commands_a a0_commands_c) 27] := hS
   replace h := Option.some.inj h; subst h
   exact ⟨m13, rfl, hK.only [1, 2, 22], l13, hS⟩
  ·
   replace hK := hK.more (t := 12) (v' := .bool false) rfl (by rw [hb4])
   replace hK := hK.more (t := 11) (v' := .bool false) rfl (by rw [hb4])
   replace h := ite_f (not_false_of ((Bool.not_eq_false' _).mp hb4)) h
   refine qo 13 hK (s_loadAll hK.at_ hS 0 rfl rfl rfl (by kernel_rfl) ?_)
   clear hK fr; intro fr hK
   replace a0_commands_f := Els.mono rep_G_Command a0_commands_f l13
   obtain ⟨y9, hy16, h⟩ := bind_some h
   refine qo 14 hK (s_call hK.at_ hS ent27_7 rfl rfl rfl rfl (G.graftref05_Valid_spec a0_commands_f hy16) (by kernel_rfl) ?_)
   clear hK fr hS; rintro _ m14 _ l14 hS ⟨rfl, rfl⟩ fr hK
   replace hS : St _ m m14 [.box b1 (G_Delta_cells a0 a0_commands_a a0_commands_c) 27] := hS
   refine qp 15 (.bool (!y9)) hK fun fr hK => ?_
   refine qp 16 (.bool (!y9)) hK fun fr hK => ?_
   refine qp 17 (.bool (!y9)) hK fun fr hK => ?_
   refine split_b (x := (!y9)) (fun hb5 => ?_) (fun hb5 => ?_)
   ·
    replace hK := hK.more (t := 17) (v' := .bool true) rfl (by rw [hb5])
    replace hK := hK.more (t := 16) (v' := .bool true) rfl (by rw [hb5])
    replace hK := hK.more (t := 15) (v' := .bool true) rfl (by rw [hb5])
    replace h := ite_t ((Bool.not_eq_true' _).mp hb5) h
    refine qs 18 hK ?_
    clear hK fr; intro fr hK
    refine qs 19 hK ?_
    clear hK fr; intro fr hK
    refine qs 20 hK ?_
    clear hK fr; intro fr hK
    refine qs 21 hK ?_
    clear hK fr; intro fr hK
    refine qp 22 (.bool true) hK fun fr hK => ?_
    refine wpListIn_nil (then_n ?_)
    replace hS : St _ m m14 [.box b1 (G_Delta_cells a0 a0_commands_a a0_commands_c) 27] := hS
    replace h := Option.some.inj h; subst h
    exact ⟨m14, rfl, hK.only [1, 2, 22], l13.trans l14, hS⟩
   ·
    replace hK := hK.more (t := 17) (v' := .bool false) rfl (by rw [hb5])
    replace hK := hK.more (t := 16) (v' := .bool false) rfl (by rw [hb5])
    replace hK := hK.more (t := 15) (v' := .bool false) rfl (by rw [hb5])
    replace h := ite_f (not_false_of ((Bool.not_eq_false' _).mp hb5)) h
    refine qp 18 (.pointer (some ⟨b1, 66, none⟩)) hK fun fr hK => ?_
    refine qo 19 hK (s_load hK.at_ hS 0 rfl rfl rfl rfl (by kernel_rfl) ?_)
    clear hK fr; intro fr hK
    refine qp 20 (.int .i64 (a0.commands.length : Int)) hK fun fr hK => ?_
    refine qp 21 (.bool ((a0.commands.length : Int) == 0)) hK fun fr hK => ?_
    refine qp 22 (.bool ((a0.commands.length : Int) == 0)) hK fun fr hK => ?_
    refine wpListIn_nil (then_n ?_)
    replace hS : St _ m m14 [.box b1 (G_Delta_cells a0 a0_commands_a a0_commands_c) 27] := hS
    replace h := Option.some.inj h; subst h
    exact ⟨m14, rfl, hK.only [1, 2, 22], l13.trans l14, hS⟩
end Go.Proofs.Ytkalbidbhaalmaa
