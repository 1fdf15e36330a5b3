/- The program computes the plain functions: graftref06_Fail, graftref06_Expect, graftref06_Uint, graftref06_Length, graftref06_Bytes, graftref07_command. Printed by a program. -/
import Derived.Test.YtkalbidbhaalmaaProg
import Derived.Test.YtkalbidbhaalmaaGs
import Derived.Test.YtkalbidbhaalmaaRep
namespace Go.Proofs.Ytkalbidbhaalmaa
open Go.RowKit G
theorem ent49_6 : Enters Try.prog 49 := enters_of Try.func49 (by decide +kernel) (by decide +kernel)
theorem ent50_6 : Enters Try.prog 50 := enters_of Try.func50 (by decide +kernel) (by decide +kernel)
theorem ent51_6 : Enters Try.prog 51 := enters_of Try.func51 (by decide +kernel) (by decide +kernel)
theorem ent52_6 : Enters Try.prog 52 := enters_of Try.func52 (by decide +kernel) (by decide +kernel)
theorem elT22_6 : ElemT Try.prog 22 5 (.int .u8 0) 1 1 := ⟨by kernel_rfl, by kernel_rfl, by kernel_rfl, by decide⟩
set_option maxRecDepth 100000 in
set_option maxHeartbeats 1000000 in
theorem G.graftref06_Fail_spec {m : Mem} {a0 : G.graftref06_Reader} {a0_b : Nat} {a0_b_a : Option Addr} {a0_b_c : Nat} {a0_T : TypeId} {a1 : Int} {a2 : Int} (a0_b_f : Els isU8 m 1 a0_b_a a0_b_c a0.b) {r : G.graftref06_Reader} (h : G.graftref06_Fail a0 a1 a2 = some r) (hO : Ow m [.box a0_b #[.slice a0_b_a a0.b.length a0_b_c, .int .i64 a0.at_, .int .i64 a0.code, .int .i64 a0.pos] a0_T]) :
  Spec Try.prog 50 #[.pointer (some ⟨a0_b, 0, none⟩), .int .i64 a1, .int .i64 a2] m [.box a0_b #[.slice a0_b_a a0.b.length a0_b_c, .int .i64 a0.at_, .int .i64 a0.code, .int .i64 a0.pos] a0_T] fun v m' L => L = [.box a0_b #[.slice a0_b_a r.b.length a0_b_c, .int .i64 r.at_, .int .i64 r.code, .int .i64 r.pos] a0_T] ∧ v = .tuple #[] ∧ r.b = a0.b := by
 unfold G.graftref06_Fail at h
 refine enter (args := [_, _, _]) 23 Try.func50 rfl rfl (by simp) fun fr hK => ?_
 have hS := St.refl (hO)
 replace hK : Kn 23 fr [(0, .pointer (some ⟨a0_b, 0, none⟩)), (1, .int .i64 a1), (2, .int .i64 a2)] := hK
 refine w_seq ?_
 obtain ⟨v1, hv1, h⟩ := bind_some h
 refine w_join (fun fr ww => ∃ m1 : Mem, m1.w = ww ∧ Kn 23 fr [(0, .pointer (some ⟨a0_b, 0, none⟩)), (1, .int .i64 a1), (2, .int .i64 a2), (14, .bool v1)] ∧ Le m m1 ∧ St (blocksOf [.box a0_b #[.slice a0_b_a a0.b.length a0_b_c, .int .i64 a0.at_, .int .i64 a0.code, .int .i64 a0.pos] a0_T]) m m1 [.box a0_b #[.slice a0_b_a a0.b.length a0_b_c, .int .i64 a0.at_, .int .i64 a0.code, .int .i64 a0.pos] a0_T]) ?_ ?_
 ·
  clear hK hS fr hv1
  rintro fr _ ⟨m1, rfl, hK, l1, hS⟩
  refine then_n ?_
  refine w_cond hK rfl (fun hb1 => ?_) (fun hb1 => ?_)
  ·
   replace hK := hK.more (t := 14) (v' := .bool true) rfl (by rw [hb1])
   replace h := ite_t (hb1) h
   refine w_seq (w_region ?_)
   refine qp 15 (.pointer (some ⟨a0_b, 0, none⟩)) hK fun fr hK => ?_
   refine qp 16 (.int .i64 a1) hK fun fr hK => ?_
   refine qp 17 (.pointer (some ⟨a0_b, 0, none⟩)) hK fun fr hK => ?_
   refine qp 18 (.pointer (some ⟨a0_b, 2, none⟩)) hK fun fr hK => ?_
   refine qo0 hK (s_store hK.at_ 0 hS rfl rfl rfl rfl (by kernel_rfl) (by kernel_rfl) (by kernel_rfl) ?_)
   clear hK fr hS; intro m2 l2 hS fr hK
   replace hS : St _ m m2 [.box a0_b #[.slice a0_b_a a0.b.length a0_b_c, .int .i64 a0.at_, .int .i64 a1, .int .i64 a0.pos] a0_T] := hS
   refine wpList_nil (then_n ?_)
   refine w_region ?_
   refine qp 19 (.pointer (some ⟨a0_b, 0, none⟩)) hK fun fr hK => ?_
   refine qp 20 (.int .i64 a2) hK fun fr hK => ?_
   refine qp 21 (.pointer (some ⟨a0_b, 0, none⟩)) hK fun fr hK => ?_
   refine qp 22 (.pointer (some ⟨a0_b, 3, none⟩)) hK fun fr hK => ?_
   refine qo0 hK (s_store hK.at_ 0 hS rfl rfl rfl rfl (by kernel_rfl) (by kernel_rfl) (by kernel_rfl) ?_)
   clear hK fr hS; intro m3 l3 hS fr hK
   replace hS : St _ m m3 [.box a0_b #[.slice a0_b_a a0.b.length a0_b_c, .int .i64 a0.at_, .int .i64 a1, .int .i64 a2] a0_T] := hS
   refine wpList_nil ?_
   replace a0_b_f := Els.mono rep_U8 a0_b_f (l1.trans (l2.trans l3))
   replace h := Option.some.inj h; subst h
   replace hS : St _ m m3 [.box a0_b #[.slice a0_b_a a0.b.length a0_b_c, .int .i64 a0.at_, .int .i64 a1, .int .i64 a2] a0_T] := hS
   refine end_of [] [] rfl hK .nil hS ?_
   exact ⟨rfl, rfl, rfl⟩
  ·
   replace hK := hK.more (t := 14) (v' := .bool false) rfl (by rw [hb1])
   replace h := ite_f (ne_true_of_eq_false hb1) h
   refine wp_skip ?_
   replace a0_b_f := Els.mono rep_U8 a0_b_f l1
   replace h := Option.some.inj h; subst h
   replace hS : St _ m m1 [.box a0_b #[.slice a0_b_a a0.b.length a0_b_c, .int .i64 a0.at_, .int .i64 a0.code, .int .i64 a0.pos] a0_T] := hS
   refine end_of [] [] rfl hK .nil hS ?_
   exact ⟨rfl, rfl, rfl⟩
 ·
  replace h := hv1; clear hv1
  refine w_region ?_
  refine qp 6 (.pointer (some ⟨a0_b, 0, none⟩)) hK fun fr hK => ?_
  refine qp 7 (.pointer (some ⟨a0_b, 0, none⟩)) hK fun fr hK => ?_
  refine qp 8 (.pointer (some ⟨a0_b, 2, none⟩)) hK fun fr hK => ?_
  refine qo 9 hK (s_load hK.at_ hS 0 rfl rfl rfl rfl (by kernel_rfl) ?_)
  clear hK fr; intro fr hK
  refine qp 10 (.bool (a0.code == 0)) hK fun fr hK => ?_
  refine qp 11 (.bool (a0.code == 0)) hK fun fr hK => ?_
  refine split_b (x := (a0.code == 0)) (fun hb2 => ?_) (fun hb2 => ?_)
  ·
   replace hK := hK.more (t := 11) (v' := .bool true) rfl (by rw [hb2])
   replace hK := hK.more (t := 10) (v' := .bool true) rfl (by rw [hb2])
   replace h := ite_t (eq_of_beq hb2) h
   refine qp 12 (.int .i64 a1) hK fun fr hK => ?_
   refine qp 13 (.bool (a1 != 0)) hK fun fr hK => ?_
   refine qp 14 (.bool (a1 != 0)) hK fun fr hK => ?_
   refine wpList_nil (then_n ?_)
   replace hS : St _ m m [.box a0_b #[.slice a0_b_a a0.b.length a0_b_c, .int .i64 a0.at_, .int .i64 a0.code, .int .i64 a0.pos] a0_T] := hS
   replace h := Option.some.inj h; subst h
   exact ⟨m, rfl, hK.only [0, 1, 2, 14], Le.refl _, hS⟩
  ·
   replace hK := hK.more (t := 11) (v' := .bool false) rfl (by rw [hb2])
   replace hK := hK.more (t := 10) (v' := .bool false) rfl (by rw [hb2])
   replace h := ite_f (ne_of_beq_false hb2) h
   refine qs 12 hK ?_
   clear hK fr; intro fr hK
   refine qs 13 hK ?_
   clear hK fr; intro fr hK
   refine qp 14 (.bool false) hK fun fr hK => ?_
   refine wpList_nil (then_n ?_)
   replace hS : St _ m m [.box a0_b #[.slice a0_b_a a0.b.length a0_b_c, .int .i64 a0.at_, .int .i64 a0.code, .int .i64 a0.pos] a0_T] := hS
   replace h := Option.some.inj h; subst h
   exact ⟨m, rfl, hK.only [0, 1, 2, 14], Le.refl _, hS⟩
set_option maxRecDepth 100000 in
set_option maxHeartbeats 1000000 in
theorem G.graftref06_Expect_spec {m : Mem} {a0 : G.graftref06_Reader} {a0_b : Nat} {a0_b_a : Option Addr} {a0_b_c : Nat} {a0_T : TypeId} {a1 : List UInt8} {a1_a : Option Addr} {a1_c : Nat} {a2 : Int} (a0_b_f : Els isU8 m 1 a0_b_a a0_b_c a0.b) (a1_f : Els isU8 m 1 a1_a a1_c a1) {r : Bool × G.graftref06_Reader} (h : G.graftref06_Expect a0 a1 a2 = some r) (hO : Ow m [.box a0_b #[.slice a0_b_a a0.b.length a0_b_c, .int .i64 a0.at_, .int .i64 a0.code, .int .i64 a0.pos] a0_T]) :
  Spec Try.prog 48 #[.pointer (some ⟨a0_b, 0, none⟩), .slice a1_a a1.length a1_c, .int .i64 a2] m [.box a0_b #[.slice a0_b_a a0.b.length a0_b_c, .int .i64 a0.at_, .int .i64 a0.code, .int .i64 a0.pos] a0_T] fun v m' L => L = [.box a0_b #[.slice a0_b_a r.2.b.length a0_b_c, .int .i64 r.2.at_, .int .i64 r.2.code, .int .i64 r.2.pos] a0_T] ∧ v = .bool r.1 ∧ r.2.b = a0.b := by
 unfold G.graftref06_Expect at h
 refine enter (args := [_, _, _]) 74 Try.func48 rfl rfl (by simp) fun fr hK => ?_
 have hS := St.refl (hO)
 replace hK : Kn 74 fr [(0, .pointer (some ⟨a0_b, 0, none⟩)), (1, .slice a1_a a1.length a1_c), (2, .int .i64 a2)] := hK
 refine w_seq (w_region ?_)
 refine qp 6 (.bool false) hK fun fr hK => ?_
 refine wpList_nil (then_n ?_)
 refine w_seq ?_
 refine w_seq (w_region ?_)
 refine qp 8 (.pointer (some ⟨a0_b, 0, none⟩)) hK fun fr hK => ?_
 refine qp 9 (.pointer (some ⟨a0_b, 0, none⟩)) hK fun fr hK => ?_
 refine qp 10 (.pointer (some ⟨a0_b, 2, none⟩)) hK fun fr hK => ?_
 refine qo 11 hK (s_load hK.at_ hS 0 rfl rfl rfl rfl (by kernel_rfl) ?_)
 clear hK fr; intro fr hK
 refine qp 12 (.bool (a0.code != 0)) hK fun fr hK => ?_
 refine wpList_nil (then_n ?_)
 refine w_cond hK rfl (fun hb1 => ?_) (fun hb1 => ?_)
 ·
  replace hK := hK.more (t := 12) (v' := .bool true) rfl (by rw [hb1])
  replace h := ite_t (ne_of_bne hb1) h
  refine w_seq (w_region ?_)
  refine qp 6 (.bool false) hK fun fr hK => ?_
  refine wpList_nil (then_n ?_)
  refine wp_ret ?_
  refine then_r ?_
  replace h := Option.some.inj h; subst h
  replace hS : St _ m m [.box a0_b #[.slice a0_b_a a0.b.length a0_b_c, .int .i64 a0.at_, .int .i64 a0.code, .int .i64 a0.pos] a0_T] := hS
  refine ret_of [.tmp 6] [.bool false] rfl hK (.tmp rfl .nil) hS ?_
  exact ⟨rfl, rfl, rfl⟩
 ·
  replace hK := hK.more (t := 12) (v' := .bool false) rfl (by rw [hb1])
  replace h := ite_f (not_not_intro (eq_of_bne hb1)) h
  refine wp_skip ?_
  refine then_n ?_
  refine w_seq ?_
  have hlt0 : ∀ bq ∈ blocksOf [.box a0_b #[.slice a0_b_a a0.b.length a0_b_c, .int .i64 a0.at_, .int .i64 a0.code, .int .i64 a0.pos] a0_T], bq < m.w.heap.size := fun bq hbq => hS.ow.lt hbq
  refine D.wp_draw (Gr := D.GO m none) (S := D.SO none (blocksOf [.box a0_b #[.slice a0_b_a a0.b.length a0_b_c, .int .i64 a0.at_, .int .i64 a0.code, .int .i64 a0.pos] a0_T]) m m (fun _ => [.box a0_b #[.slice a0_b_a a0.b.length a0_b_c, .int .i64 a0.at_, .int .i64 a0.code, .int .i64 a0.pos] a0_T]) (fun _ => True)) (N := 0) 12 [] [([(1, none)], 0, 0, false), ([(13, some 0)], 0, 0, false), ([(0, none)], 0, 0, false), ([(15, some 0)], 0, 0, false), ([(16, some 0)], 0, 0, false), ([(17, some 0)], 0, 0, false), ([(18, some 0)], 0, 0, false), ([(0, none)], 0, 0, false), ([(20, some 0)], 0, 0, false), ([(21, some 0)], 0, 0, false), ([(22, some 0)], 0, 0, false), ([(19, some 4), (23, some 0)], 0, 0, false)] hK.size (by kernel_rfl) (by kernel_rfl) (by kernel_rfl) rfl (D.startO hS trivial) ?_
  refine D.on_pure (D.GO_refl _ _) [(1, .slice a1_a a1.length a1_c)] (.slice a1_a a1.length a1_c) (fun ac ww hk => (.cons (hk.1.trans (hK.at_ 1 _ rfl)) (.nil _))) ?_
  refine D.on_pure (D.GO_refl _ _) [(13, .slice a1_a a1.length a1_c)] (.int .i64 (a1.length : Int)) (fun ac ww hk => (.cons (hk.1) (.nil _))) ?_
  refine D.on_pure (D.GO_refl _ _) [(0, .pointer (some ⟨a0_b, 0, none⟩))] (.pointer (some ⟨a0_b, 0, none⟩)) (fun ac ww hk => (.cons (hk.1.trans (hK.at_ 0 _ rfl)) (.nil _))) ?_
  refine D.on_pure (D.GO_refl _ _) [(15, .pointer (some ⟨a0_b, 0, none⟩))] (.pointer (some ⟨a0_b, 0, none⟩)) (fun ac ww hk => (.cons (hk.1) (.nil _))) ?_
  refine D.on_pure (D.GO_refl _ _) [(16, .pointer (some ⟨a0_b, 0, none⟩))] (.pointer (some ⟨a0_b, 0, none⟩)) (fun ac ww hk => (.cons (hk.1) (.nil _))) ?_
  refine D.on_det (D.GO_refl _ _) [(17, .pointer (some ⟨a0_b, 0, none⟩))] (.slice a0_b_a a0.b.length a0_b_c) (fun ac ww hk => (.cons (hk.1) (.nil _))) (fun ac ww kk hb hKe Post hp => (fun hS => s_load hKe hS 0 rfl rfl rfl rfl (by kernel_rfl) hp) hb.2.1) ?_
  refine D.on_pure (D.GO_refl _ _) [(18, .slice a0_b_a a0.b.length a0_b_c)] (.int .i64 (a0.b.length : Int)) (fun ac ww hk => (.cons (hk.1) (.nil _))) ?_
  refine D.on_pure (D.GO_refl _ _) [(0, .pointer (some ⟨a0_b, 0, none⟩))] (.pointer (some ⟨a0_b, 0, none⟩)) (fun ac ww hk => (.cons (hk.1.trans (hK.at_ 0 _ rfl)) (.nil _))) ?_
  refine D.on_pure (D.GO_refl _ _) [(20, .pointer (some ⟨a0_b, 0, none⟩))] (.pointer (some ⟨a0_b, 0, none⟩)) (fun ac ww hk => (.cons (hk.1) (.nil _))) ?_
  refine D.on_pure (D.GO_refl _ _) [(21, .pointer (some ⟨a0_b, 0, none⟩))] (.pointer (some ⟨a0_b, 1, none⟩)) (fun ac ww hk => (.cons (hk.1) (.nil _))) ?_
  refine D.on_det (D.GO_refl _ _) [(22, .pointer (some ⟨a0_b, 1, none⟩))] (.int .i64 a0.at_) (fun ac ww hk => (.cons (hk.1) (.nil _))) (fun ac ww kk hb hKe Post hp => (fun hS => s_load hKe hS 0 rfl rfl rfl rfl (by kernel_rfl) hp) hb.2.1) ?_
  refine D.on_pure (D.GO_refl _ _) [(19, .int .i64 (a0.b.length : Int)), (23, .int .i64 a0.at_)] (.int .i64 (IntKind.i64.wrap ((a0.b.length : Int) - a0.at_))) (fun ac ww hk => (.cons (hk.1) (.cons (hk.2.1) (.nil _)))) ?_
  refine D.finO ?_
  intro fr2 m1 hm1 l1 hS2 hF2 hE
  replace hS2 : St _ m m1 [.box a0_b #[.slice a0_b_a a0.b.length a0_b_c, .int .i64 a0.at_, .int .i64 a0.code, .int .i64 a0.pos] a0_T] := hS2
  have hK2 := D.kn_ends [(13, .slice a1_a a1.length a1_c), (14, .int .i64 (a1.length : Int)), (15, .pointer (some ⟨a0_b, 0, none⟩)), (16, .pointer (some ⟨a0_b, 0, none⟩)), (17, .pointer (some ⟨a0_b, 0, none⟩)), (18, .slice a0_b_a a0.b.length a0_b_c), (19, .int .i64 (a0.b.length : Int)), (20, .pointer (some ⟨a0_b, 0, none⟩)), (21, .pointer (some ⟨a0_b, 0, none⟩)), (22, .pointer (some ⟨a0_b, 1, none⟩)), (23, .int .i64 a0.at_), (24, .int .i64 (IntKind.i64.wrap ((a0.b.length : Int) - a0.at_)))] hK hE rfl (by kernel_rfl) (.cons (hE.slots 13) (.cons (hE.slots 14) (.cons (hE.slots 15) (.cons (hE.slots 16) (.cons (hE.slots 17) (.cons (hE.slots 18) (.cons (hE.slots 19) (.cons (hE.slots 20) (.cons (hE.slots 21) (.cons (hE.slots 22) (.cons (hE.slots 23) (.cons (hE.slots 24) (.nil _)))))))))))))
  replace hK2 : Kn 74 fr2 [(13, .slice a1_a a1.length a1_c), (14, .int .i64 (a1.length : Int)), (15, .pointer (some ⟨a0_b, 0, none⟩)), (16, .pointer (some ⟨a0_b, 0, none⟩)), (17, .pointer (some ⟨a0_b, 0, none⟩)), (18, .slice a0_b_a a0.b.length a0_b_c), (19, .int .i64 (a0.b.length : Int)), (20, .pointer (some ⟨a0_b, 0, none⟩)), (21, .pointer (some ⟨a0_b, 0, none⟩)), (22, .pointer (some ⟨a0_b, 1, none⟩)), (23, .int .i64 a0.at_), (24, .int .i64 (IntKind.i64.wrap ((a0.b.length : Int) - a0.at_))), (12, .bool false), (11, .int .i64 a0.code), (10, .pointer (some ⟨a0_b, 2, none⟩)), (9, .pointer (some ⟨a0_b, 0, none⟩)), (8, .pointer (some ⟨a0_b, 0, none⟩)), (6, .bool false), (0, .pointer (some ⟨a0_b, 0, none⟩)), (1, .slice a1_a a1.length a1_c), (2, .int .i64 a2)] := hK2.only [13, 14, 15, 16, 17, 18, 19, 20, 21, 22, 23, 24, 12, 11, 10, 9, 8, 6, 0, 1, 2]
  clear hE hK; revert hK2; clear hm1 hS hlt0; revert fr2; clear fr; intro fr hK; have hS := hS2; clear hS2
  replace hS : St _ m m1 [.box a0_b #[.slice a0_b_a a0.b.length a0_b_c, .int .i64 a0.at_, .int .i64 a0.code, .int .i64 a0.pos] a0_T] := hS
  refine qp 25 (.int .i64 (imin (a1.length : Int) (IntKind.i64.wrap ((a0.b.length : Int) - a0.at_)))) hK fun fr hK => ?_
  refine qp 7 (.int .i64 (imin (a1.length : Int) (IntKind.i64.wrap ((a0.b.length : Int) - a0.at_)))) hK fun fr hK => ?_
  refine wpList_nil (then_n ?_)
  refine w_seq ?_
  refine w_seq ?_
  replace a0_b_f := Els.mono rep_U8 a0_b_f l1
  replace a1_f := Els.mono rep_U8 a1_f l1
  obtain ⟨x1, hy1, h⟩ := bind_some h
  obtain ⟨x2, hy2, h⟩ := bind_some h
  have hlt0 : ∀ bq ∈ blocksOf [.box a0_b #[.slice a0_b_a a0.b.length a0_b_c, .int .i64 a0.at_, .int .i64 a0.code, .int .i64 a0.pos] a0_T], bq < m1.w.heap.size := fun bq hbq => hS.ow.lt hbq
  refine D.wp_draw (Gr := D.GO m1 none) (S := D.SO none (blocksOf [.box a0_b #[.slice a0_b_a a0.b.length a0_b_c, .int .i64 a0.at_, .int .i64 a0.code, .int .i64 a0.pos] a0_T]) m m1 (fun _ => [.box a0_b #[.slice a0_b_a a0.b.length a0_b_c, .int .i64 a0.at_, .int .i64 a0.code, .int .i64 a0.pos] a0_T]) (fun _ => True)) (N := 0) 20 [] [([(0, none)], 0, 0, false), ([(26, some 0)], 0, 0, false), ([(27, some 0)], 0, 0, false), ([(28, some 0)], 0, 0, false), ([(0, none)], 0, 0, false), ([(30, some 0)], 0, 0, false), ([(31, some 0)], 0, 0, false), ([(32, some 0)], 0, 0, false), ([(0, none)], 0, 0, false), ([(34, some 0)], 0, 0, false), ([(35, some 0)], 0, 0, false), ([(36, some 0)], 0, 0, false), ([(7, none)], 0, 0, false), ([(37, some 1), (38, some 0)], 0, 0, false), ([(29, some 10), (33, some 6), (39, some 0)], 0, 0, false), ([(40, some 0)], 0, 0, false), ([(1, none)], 0, 0, false), ([(7, none)], 0, 0, false), ([(42, some 1), (43, some 0)], 0, 0, false), ([(44, some 0)], 0, 0, false)] hK.size (by kernel_rfl) (by kernel_rfl) (by kernel_rfl) rfl (D.startO hS trivial) ?_
  refine D.on_pure (D.GO_refl _ _) [(0, .pointer (some ⟨a0_b, 0, none⟩))] (.pointer (some ⟨a0_b, 0, none⟩)) (fun ac ww hk => (.cons (hk.1.trans (hK.at_ 0 _ rfl)) (.nil _))) ?_
  refine D.on_pure (D.GO_refl _ _) [(26, .pointer (some ⟨a0_b, 0, none⟩))] (.pointer (some ⟨a0_b, 0, none⟩)) (fun ac ww hk => (.cons (hk.1) (.nil _))) ?_
  refine D.on_pure (D.GO_refl _ _) [(27, .pointer (some ⟨a0_b, 0, none⟩))] (.pointer (some ⟨a0_b, 0, none⟩)) (fun ac ww hk => (.cons (hk.1) (.nil _))) ?_
  refine D.on_det (D.GO_refl _ _) [(28, .pointer (some ⟨a0_b, 0, none⟩))] (.slice a0_b_a a0.b.length a0_b_c) (fun ac ww hk => (.cons (hk.1) (.nil _))) (fun ac ww kk hb hKe Post hp => (fun hS => s_load hKe hS 0 rfl rfl rfl rfl (by kernel_rfl) hp) hb.2.1) ?_
  refine D.on_pure (D.GO_refl _ _) [(0, .pointer (some ⟨a0_b, 0, none⟩))] (.pointer (some ⟨a0_b, 0, none⟩)) (fun ac ww hk => (.cons (hk.1.trans (hK.at_ 0 _ rfl)) (.nil _))) ?_
  refine D.on_pure (D.GO_refl _ _) [(30, .pointer (some ⟨a0_b, 0, none⟩))] (.pointer (some ⟨a0_b, 0, none⟩)) (fun ac ww hk => (.cons (hk.1) (.nil _))) ?_
  refine D.on_pure (D.GO_refl _ _) [(31, .pointer (some ⟨a0_b, 0, none⟩))] (.pointer (some ⟨a0_b, 1, none⟩)) (fun ac ww hk => (.cons (hk.1) (.nil _))) ?_
  refine D.on_det (D.GO_refl _ _) [(32, .pointer (some ⟨a0_b, 1, none⟩))] (.int .i64 a0.at_) (fun ac ww hk => (.cons (hk.1) (.nil _))) (fun ac ww kk hb hKe Post hp => (fun hS => s_load hKe hS 0 rfl rfl rfl rfl (by kernel_rfl) hp) hb.2.1) ?_
  refine D.on_pure (D.GO_refl _ _) [(0, .pointer (some ⟨a0_b, 0, none⟩))] (.pointer (some ⟨a0_b, 0, none⟩)) (fun ac ww hk => (.cons (hk.1.trans (hK.at_ 0 _ rfl)) (.nil _))) ?_
  refine D.on_pure (D.GO_refl _ _) [(34, .pointer (some ⟨a0_b, 0, none⟩))] (.pointer (some ⟨a0_b, 0, none⟩)) (fun ac ww hk => (.cons (hk.1) (.nil _))) ?_
  refine D.on_pure (D.GO_refl _ _) [(35, .pointer (some ⟨a0_b, 0, none⟩))] (.pointer (some ⟨a0_b, 1, none⟩)) (fun ac ww hk => (.cons (hk.1) (.nil _))) ?_
  refine D.on_det (D.GO_refl _ _) [(36, .pointer (some ⟨a0_b, 1, none⟩))] (.int .i64 a0.at_) (fun ac ww hk => (.cons (hk.1) (.nil _))) (fun ac ww kk hb hKe Post hp => (fun hS => s_load hKe hS 0 rfl rfl rfl rfl (by kernel_rfl) hp) hb.2.1) ?_
  refine D.on_pure (D.GO_refl _ _) [(7, .int .i64 (imin (a1.length : Int) (IntKind.i64.wrap ((a0.b.length : Int) - a0.at_))))] (.int .i64 (imin (a1.length : Int) (IntKind.i64.wrap ((a0.b.length : Int) - a0.at_)))) (fun ac ww hk => (.cons (hk.1.trans (hK.at_ 7 _ rfl)) (.nil _))) ?_
  refine D.on_pure (D.GO_refl _ _) [(37, .int .i64 a0.at_), (38, .int .i64 (imin (a1.length : Int) (IntKind.i64.wrap ((a0.b.length : Int) - a0.at_))))] (.int .i64 (IntKind.i64.wrap (a0.at_ + (imin (a1.length : Int) (IntKind.i64.wrap ((a0.b.length : Int) - a0.at_)))))) (fun ac ww hk => (.cons (hk.1) (.cons (hk.2.1) (.nil _)))) ?_
  refine D.on_op (fun uu ww => ∃ (ad1 : Option Addr) (cp1 : Nat), uu = .slice ad1 x1.length cp1 ∧ Els isU8 (m1.upO none ww) 1 ad1 cp1 x1) (fun _ _ _ ⟨ad1, cp1, e, f1⟩ g => ⟨ad1, cp1, e, Els.mono rep_U8 f1 g.1⟩) (by
   intro ac ww kk hlo hhi hb hk
   obtain rfl : kk = 0 := by omega
   have h0 := hS; replace hS := hb.2.1
   have k29 : ac.eval (.tmp 29) = .slice a0_b_a a0.b.length a0_b_c := hk.1
   have k33 : ac.eval (.tmp 33) = .int .i64 a0.at_ := hk.2.1
   have k39 : ac.eval (.tmp 39) = .int .i64 (IntKind.i64.wrap (a0.at_ + (imin (a1.length : Int) (IntKind.i64.wrap ((a0.b.length : Int) - a0.at_))))) := hk.2.2.1
   have hKe : Ke ac [(29, .slice a0_b_a a0.b.length a0_b_c), (33, .int .i64 a0.at_), (39, .int .i64 (IntKind.i64.wrap (a0.at_ + (imin (a1.length : Int) (IntKind.i64.wrap ((a0.b.length : Int) - a0.at_))))))] := (.cons k29 (.cons k33 (.cons k39 (.nil _))))
   replace a0_b_f := Els.mono rep_U8 a0_b_f hb.1
   exact ⟨D.wanted0 rfl, (s_slcMid elT22_6 a0_b_f hy1 hKe rfl rfl rfl rfl (fun ad1 cp1 f1 => ⟨⟨ad1, cp1, rfl, f1⟩, D.GO_refl _ _ _, hb⟩))⟩) ?_
  refine D.on_op (fun uu _ => uu = .string (str x1)) (fun _ _ _ h _ => h) (by
   intro ac ww kk hlo hhi hb hk
   obtain rfl : kk = 0 := by omega
   have h0 := hS; replace hS := hb.2.1
   obtain ⟨ad1, cp1, k40, f1⟩ : ∃ (ad1 : Option Addr) (cp1 : Nat), ac.eval (.tmp 40) = .slice ad1 x1.length cp1 ∧ Els isU8 (m1.upO none ww) 1 ad1 cp1 x1 := hk.1
   have hKe : Ke ac [(40, .slice ad1 x1.length cp1)] := (.cons k40 (.nil _))
   exact ⟨D.wanted0 rfl, D.valO hb (fun Post hp => s_pure (.string (str x1)) hKe (by kernel_rfl) (by exact run_toStr rfl rfl Try.underlying22 Try.underlying5 Try.underlying9 f1) hp) rfl⟩) ?_
  refine D.on_pure (D.GO_refl _ _) [(1, .slice a1_a a1.length a1_c)] (.slice a1_a a1.length a1_c) (fun ac ww hk => (.cons (hk.1.trans (hK.at_ 1 _ rfl)) (.nil _))) ?_
  refine D.on_pure (D.GO_refl _ _) [(7, .int .i64 (imin (a1.length : Int) (IntKind.i64.wrap ((a0.b.length : Int) - a0.at_))))] (.int .i64 (imin (a1.length : Int) (IntKind.i64.wrap ((a0.b.length : Int) - a0.at_)))) (fun ac ww hk => (.cons (hk.1.trans (hK.at_ 7 _ rfl)) (.nil _))) ?_
  refine D.on_op (fun uu ww => ∃ (ad2 : Option Addr) (cp2 : Nat), uu = .slice ad2 x2.length cp2 ∧ Els isU8 (m1.upO none ww) 1 ad2 cp2 x2) (fun _ _ _ ⟨ad2, cp2, e, f2⟩ g => ⟨ad2, cp2, e, Els.mono rep_U8 f2 g.1⟩) (by
   intro ac ww kk hlo hhi hb hk
   obtain rfl : kk = 0 := by omega
   have h0 := hS; replace hS := hb.2.1
   have k42 : ac.eval (.tmp 42) = .slice a1_a a1.length a1_c := hk.1
   have k43 : ac.eval (.tmp 43) = .int .i64 (imin (a1.length : Int) (IntKind.i64.wrap ((a0.b.length : Int) - a0.at_))) := hk.2.1
   have hKe : Ke ac [(42, .slice a1_a a1.length a1_c), (43, .int .i64 (imin (a1.length : Int) (IntKind.i64.wrap ((a0.b.length : Int) - a0.at_))))] := (.cons k42 (.cons k43 (.nil _)))
   replace a1_f := Els.mono rep_U8 a1_f hb.1
   exact ⟨D.wanted0 rfl, (s_slcTo elT22_6 a1_f hy2 hKe rfl rfl rfl (fun ad2 cp2 f2 => ⟨⟨ad2, cp2, rfl, f2⟩, D.GO_refl _ _ _, hb⟩))⟩) ?_
  refine D.on_op (fun uu _ => uu = .string (str x2)) (fun _ _ _ h _ => h) (by
   intro ac ww kk hlo hhi hb hk
   obtain rfl : kk = 0 := by omega
   have h0 := hS; replace hS := hb.2.1
   obtain ⟨ad2, cp2, k44, f2⟩ : ∃ (ad2 : Option Addr) (cp2 : Nat), ac.eval (.tmp 44) = .slice ad2 x2.length cp2 ∧ Els isU8 (m1.upO none ww) 1 ad2 cp2 x2 := hk.1
   have hKe : Ke ac [(44, .slice ad2 x2.length cp2)] := (.cons k44 (.nil _))
   exact ⟨D.wanted0 rfl, D.valO hb (fun Post hp => s_pure (.string (str x2)) hKe (by kernel_rfl) (by exact run_toStr rfl rfl Try.underlying22 Try.underlying5 Try.underlying9 f2) hp) rfl⟩) ?_
  refine D.finO ?_
  intro fr2 m2 hm1 l2 hS2 hF2 hE
  replace hS2 : St _ m m2 [.box a0_b #[.slice a0_b_a a0.b.length a0_b_c, .int .i64 a0.at_, .int .i64 a0.code, .int .i64 a0.pos] a0_T] := hS2
  have hK2 := D.kn_ends [(26, .pointer (some ⟨a0_b, 0, none⟩)), (27, .pointer (some ⟨a0_b, 0, none⟩)), (28, .pointer (some ⟨a0_b, 0, none⟩)), (29, .slice a0_b_a a0.b.length a0_b_c), (30, .pointer (some ⟨a0_b, 0, none⟩)), (31, .pointer (some ⟨a0_b, 0, none⟩)), (32, .pointer (some ⟨a0_b, 1, none⟩)), (33, .int .i64 a0.at_), (34, .pointer (some ⟨a0_b, 0, none⟩)), (35, .pointer (some ⟨a0_b, 0, none⟩)), (36, .pointer (some ⟨a0_b, 1, none⟩)), (37, .int .i64 a0.at_), (38, .int .i64 (imin (a1.length : Int) (IntKind.i64.wrap ((a0.b.length : Int) - a0.at_)))), (39, .int .i64 (IntKind.i64.wrap (a0.at_ + (imin (a1.length : Int) (IntKind.i64.wrap ((a0.b.length : Int) - a0.at_)))))), (40, fr2.eval (.tmp 40)), (41, .string (str x1)), (42, .slice a1_a a1.length a1_c), (43, .int .i64 (imin (a1.length : Int) (IntKind.i64.wrap ((a0.b.length : Int) - a0.at_)))), (44, fr2.eval (.tmp 44)), (45, .string (str x2))] hK hE rfl (by kernel_rfl) (.cons (hE.slots 26) (.cons (hE.slots 27) (.cons (hE.slots 28) (.cons (hE.slots 29) (.cons (hE.slots 30) (.cons (hE.slots 31) (.cons (hE.slots 32) (.cons (hE.slots 33) (.cons (hE.slots 34) (.cons (hE.slots 35) (.cons (hE.slots 36) (.cons (hE.slots 37) (.cons (hE.slots 38) (.cons (hE.slots 39) (.cons (rfl) (.cons (hE.slots 41) (.cons (hE.slots 42) (.cons (hE.slots 43) (.cons (rfl) (.cons (hE.slots 45) (.nil _)))))))))))))))))))))
  replace hK2 : Kn 74 fr2 [(26, .pointer (some ⟨a0_b, 0, none⟩)), (27, .pointer (some ⟨a0_b, 0, none⟩)), (28, .pointer (some ⟨a0_b, 0, none⟩)), (29, .slice a0_b_a a0.b.length a0_b_c), (30, .pointer (some ⟨a0_b, 0, none⟩)), (31, .pointer (some ⟨a0_b, 0, none⟩)), (32, .pointer (some ⟨a0_b, 1, none⟩)), (33, .int .i64 a0.at_), (34, .pointer (some ⟨a0_b, 0, none⟩)), (35, .pointer (some ⟨a0_b, 0, none⟩)), (36, .pointer (some ⟨a0_b, 1, none⟩)), (37, .int .i64 a0.at_), (38, .int .i64 (imin (a1.length : Int) (IntKind.i64.wrap ((a0.b.length : Int) - a0.at_)))), (39, .int .i64 (IntKind.i64.wrap (a0.at_ + (imin (a1.length : Int) (IntKind.i64.wrap ((a0.b.length : Int) - a0.at_)))))), (41, .string (str x1)), (42, .slice a1_a a1.length a1_c), (43, .int .i64 (imin (a1.length : Int) (IntKind.i64.wrap ((a0.b.length : Int) - a0.at_)))), (45, .string (str x2)), (7, .int .i64 (imin (a1.length : Int) (IntKind.i64.wrap ((a0.b.length : Int) - a0.at_)))), (25, .int .i64 (imin (a1.length : Int) (IntKind.i64.wrap ((a0.b.length : Int) - a0.at_)))), (13, .slice a1_a a1.length a1_c), (14, .int .i64 (a1.length : Int)), (15, .pointer (some ⟨a0_b, 0, none⟩)), (16, .pointer (some ⟨a0_b, 0, none⟩)), (17, .pointer (some ⟨a0_b, 0, none⟩)), (18, .slice a0_b_a a0.b.length a0_b_c), (19, .int .i64 (a0.b.length : Int)), (20, .pointer (some ⟨a0_b, 0, none⟩)), (21, .pointer (some ⟨a0_b, 0, none⟩)), (22, .pointer (some ⟨a0_b, 1, none⟩)), (23, .int .i64 a0.at_), (24, .int .i64 (IntKind.i64.wrap ((a0.b.length : Int) - a0.at_))), (12, .bool false), (11, .int .i64 a0.code), (10, .pointer (some ⟨a0_b, 2, none⟩)), (9, .pointer (some ⟨a0_b, 0, none⟩)), (8, .pointer (some ⟨a0_b, 0, none⟩)), (6, .bool false), (0, .pointer (some ⟨a0_b, 0, none⟩)), (1, .slice a1_a a1.length a1_c), (2, .int .i64 a2)] := hK2.only [26, 27, 28, 29, 30, 31, 32, 33, 34, 35, 36, 37, 38, 39, 41, 42, 43, 45, 7, 25, 13, 14, 15, 16, 17, 18, 19, 20, 21, 22, 23, 24, 12, 11, 10, 9, 8, 6, 0, 1, 2]
  clear hE hK; revert hK2; clear hm1 hS hlt0; revert fr2; clear fr; intro fr hK; have hS := hS2; clear hS2
  replace hS : St _ m m2 [.box a0_b #[.slice a0_b_a a0.b.length a0_b_c, .int .i64 a0.at_, .int .i64 a0.code, .int .i64 a0.pos] a0_T] := hS
  refine qe 46 (.bool (!decide (x1 = x2))) (.bool (!((str x1).toList == (str x2).toList))) hK (by exact v_bool (congrArg _ (str_beq _ _))) ?_
  clear hK fr; intro fr hK
  refine wpList_nil (then_n ?_)
  refine w_cond hK rfl (fun hb2 => ?_) (fun hb2 => ?_)
  ·
   replace hK := hK.more (t := 46) (v' := .bool true) rfl (by rw [hb2])
   replace h := ite_t ((Bool.not_eq_true' _).mp hb2) h
   refine w_seq (w_region ?_)
   refine qp 47 (.pointer (some ⟨a0_b, 0, none⟩)) hK fun fr hK => ?_
   refine qp 48 (.int .i64 a2) hK fun fr hK => ?_
   refine qp 49 (.pointer (some ⟨a0_b, 0, none⟩)) hK fun fr hK => ?_
   refine qp 50 (.pointer (some ⟨a0_b, 0, none⟩)) hK fun fr hK => ?_
   refine qp 51 (.pointer (some ⟨a0_b, 1, none⟩)) hK fun fr hK => ?_
   refine qo 52 hK (s_load hK.at_ hS 0 rfl rfl rfl rfl (by kernel_rfl) ?_)
   clear hK fr; intro fr hK
   replace a0_b_f := Els.mono rep_U8 a0_b_f l2
   obtain ⟨y1, hy3, h⟩ := bind_some h
   replace hS : St _ m m2 [.box a0_b #[.slice a0_b_a a0.b.length a0_b_c, .int .i64 a0.at_, .int .i64 a0.code, .int .i64 a0.pos] a0_T] := hS
   refine qo 53 hK (s_callM (R := [.box a0_b #[.slice a0_b_a a0.b.length a0_b_c, .int .i64 a0.at_, .int .i64 a0.code, .int .i64 a0.pos] a0_T]) (L := []) hK.at_ hS ent50_6 rfl rfl rfl rfl (G.graftref06_Fail_spec a0_b_f hy3 (Ow.left (L := [.box a0_b #[.slice a0_b_a a0.b.length a0_b_c, .int .i64 a0.at_, .int .i64 a0.code, .int .i64 a0.pos] a0_T]) hS.ow)) (by kernel_rfl) ?_)
   clear hK fr hS; rintro _ m3 _ l3 hS ⟨rfl, rfl, c1re0⟩ fr hK
   replace hS : St _ m m3 [.box a0_b #[.slice a0_b_a y1.b.length a0_b_c, .int .i64 y1.at_, .int .i64 y1.code, .int .i64 y1.pos] a0_T] := hS
   refine wpList_nil (then_n ?_)
   refine w_seq (w_region ?_)
   refine qp 6 (.bool false) hK fun fr hK => ?_
   refine wpList_nil (then_n ?_)
   refine wp_ret ?_
   refine then_r ?_
   replace a0_b_f := Els.mono rep_U8 a0_b_f l3
   have f3 : Els isU8 m3 1 a0_b_a a0_b_c y1.b := Els.cast c1re0.symm a0_b_f
   replace h := Option.some.inj h; subst h
   replace hS : St _ m m3 [.box a0_b #[.slice a0_b_a y1.b.length a0_b_c, .int .i64 y1.at_, .int .i64 y1.code, .int .i64 y1.pos] a0_T] := hS
   refine ret_of [.tmp 6] [.bool false] rfl hK (.tmp rfl .nil) hS ?_
   exact ⟨rfl, rfl, c1re0⟩
  ·
   replace hK := hK.more (t := 46) (v' := .bool false) rfl (by rw [hb2])
   replace h := ite_f (not_false_of ((Bool.not_eq_false' _).mp hb2)) h
   refine wp_skip ?_
   refine then_n ?_
   refine w_seq ?_
   refine w_seq (w_region ?_)
   refine qp 54 (.int .i64 (imin (a1.length : Int) (IntKind.i64.wrap ((a0.b.length : Int) - a0.at_)))) hK fun fr hK => ?_
   refine qp 55 (.slice a1_a a1.length a1_c) hK fun fr hK => ?_
   refine qp 56 (.int .i64 (a1.length : Int)) hK fun fr hK => ?_
   refine qp 57 (.bool (decide ((imin (a1.length : Int) (IntKind.i64.wrap ((a0.b.length : Int) - a0.at_))) < (a1.length : Int)))) hK fun fr hK => ?_
   refine wpList_nil (then_n ?_)
   refine w_cond hK rfl (fun hb3 => ?_) (fun hb3 => ?_)
   ·
    replace hK := hK.more (t := 57) (v' := .bool true) rfl (by rw [hb3])
    replace h := ite_t (of_decide_eq_true hb3) h
    refine w_seq (w_region ?_)
    refine qp 58 (.pointer (some ⟨a0_b, 0, none⟩)) hK fun fr hK => ?_
    refine qp 59 (.pointer (some ⟨a0_b, 0, none⟩)) hK fun fr hK => ?_
    refine qp 60 (.pointer (some ⟨a0_b, 0, none⟩)) hK fun fr hK => ?_
    refine qp 61 (.pointer (some ⟨a0_b, 0, none⟩)) hK fun fr hK => ?_
    refine qo 62 hK (s_load hK.at_ hS 0 rfl rfl rfl rfl (by kernel_rfl) ?_)
    clear hK fr; intro fr hK
    refine qp 63 (.int .i64 (a0.b.length : Int)) hK fun fr hK => ?_
    replace a0_b_f := Els.mono rep_U8 a0_b_f l2
    obtain ⟨y2, hy4, h⟩ := bind_some h
    replace hS : St _ m m2 [.box a0_b #[.slice a0_b_a a0.b.length a0_b_c, .int .i64 a0.at_, .int .i64 a0.code, .int .i64 a0.pos] a0_T] := hS
    refine qo 64 hK (s_callM (R := [.box a0_b #[.slice a0_b_a a0.b.length a0_b_c, .int .i64 a0.at_, .int .i64 a0.code, .int .i64 a0.pos] a0_T]) (L := []) hK.at_ hS ent50_6 rfl rfl rfl rfl (G.graftref06_Fail_spec a0_b_f hy4 (Ow.left (L := [.box a0_b #[.slice a0_b_a a0.b.length a0_b_c, .int .i64 a0.at_, .int .i64 a0.code, .int .i64 a0.pos] a0_T]) hS.ow)) (by kernel_rfl) ?_)
    clear hK fr hS; rintro _ m4 _ l4 hS ⟨rfl, rfl, c2re0⟩ fr hK
    replace hS : St _ m m4 [.box a0_b #[.slice a0_b_a y2.b.length a0_b_c, .int .i64 y2.at_, .int .i64 y2.code, .int .i64 y2.pos] a0_T] := hS
    refine wpList_nil (then_n ?_)
    refine w_seq (w_region ?_)
    refine qp 6 (.bool false) hK fun fr hK => ?_
    refine wpList_nil (then_n ?_)
    refine wp_ret ?_
    refine then_r ?_
    replace a0_b_f := Els.mono rep_U8 a0_b_f l4
    have f4 : Els isU8 m4 1 a0_b_a a0_b_c y2.b := Els.cast c2re0.symm a0_b_f
    replace h := Option.some.inj h; subst h
    replace hS : St _ m m4 [.box a0_b #[.slice a0_b_a y2.b.length a0_b_c, .int .i64 y2.at_, .int .i64 y2.code, .int .i64 y2.pos] a0_T] := hS
    refine ret_of [.tmp 6] [.bool false] rfl hK (.tmp rfl .nil) hS ?_
    exact ⟨rfl, rfl, c2re0⟩
   ·
    replace hK := hK.more (t := 57) (v' := .bool false) rfl (by rw [hb3])
    replace h := ite_f (of_decide_eq_false hb3) h
    refine wp_skip ?_
    refine then_n ?_
    refine w_seq (w_region ?_)
    refine qp 65 (.pointer (some ⟨a0_b, 0, none⟩)) hK fun fr hK => ?_
    refine qp 66 (.pointer (some ⟨a0_b, 0, none⟩)) hK fun fr hK => ?_
    refine qp 67 (.pointer (some ⟨a0_b, 0, none⟩)) hK fun fr hK => ?_
    refine qp 68 (.pointer (some ⟨a0_b, 1, none⟩)) hK fun fr hK => ?_
    refine qo 69 hK (s_load hK.at_ hS 0 rfl rfl rfl rfl (by kernel_rfl) ?_)
    clear hK fr; intro fr hK
    refine qp 70 (.int .i64 (imin (a1.length : Int) (IntKind.i64.wrap ((a0.b.length : Int) - a0.at_)))) hK fun fr hK => ?_
    refine qp 71 (.int .i64 (IntKind.i64.wrap (a0.at_ + (imin (a1.length : Int) (IntKind.i64.wrap ((a0.b.length : Int) - a0.at_)))))) hK fun fr hK => ?_
    refine qp 72 (.pointer (some ⟨a0_b, 0, none⟩)) hK fun fr hK => ?_
    refine qp 73 (.pointer (some ⟨a0_b, 1, none⟩)) hK fun fr hK => ?_
    refine qo0 hK (s_store hK.at_ 0 hS rfl rfl rfl rfl (by kernel_rfl) (by kernel_rfl) (by kernel_rfl) ?_)
    clear hK fr hS; intro m5 l5 hS fr hK
    replace hS : St _ m m5 [.box a0_b #[.slice a0_b_a a0.b.length a0_b_c, .int .i64 (IntKind.i64.wrap (a0.at_ + (imin (a1.length : Int) (IntKind.i64.wrap ((a0.b.length : Int) - a0.at_))))), .int .i64 a0.code, .int .i64 a0.pos] a0_T] := hS
    refine wpList_nil (then_n ?_)
    refine w_seq (w_region ?_)
    refine qp 6 (.bool true) hK fun fr hK => ?_
    refine wpList_nil (then_n ?_)
    refine wp_ret ?_
    replace a0_b_f := Els.mono rep_U8 a0_b_f (l2.trans l5)
    replace h := Option.some.inj h; subst h
    replace hS : St _ m m5 [.box a0_b #[.slice a0_b_a a0.b.length a0_b_c, .int .i64 (IntKind.i64.wrap (a0.at_ + (imin (a1.length : Int) (IntKind.i64.wrap ((a0.b.length : Int) - a0.at_))))), .int .i64 a0.code, .int .i64 a0.pos] a0_T] := hS
    refine ret_of [.tmp 6] [.bool true] rfl hK (.tmp rfl .nil) hS ?_
    exact ⟨rfl, rfl, rfl⟩
set_option maxRecDepth 100000 in
set_option maxHeartbeats 1000000 in
theorem G.graftref06_Uint_spec {m : Mem} {a0 : G.graftref06_Reader} {a0_b : Nat} {a0_b_a : Option Addr} {a0_b_c : Nat} {a0_T : TypeId} {a1 : Int} (a0_b_f : Els isU8 m 1 a0_b_a a0_b_c a0.b) {r : Int × G.graftref06_Reader} (h : G.graftref06_Uint a0 a1 = some r) (hO : Ow m [.box a0_b #[.slice a0_b_a a0.b.length a0_b_c, .int .i64 a0.at_, .int .i64 a0.code, .int .i64 a0.pos] a0_T]) :
  Spec Try.prog 49 #[.pointer (some ⟨a0_b, 0, none⟩), .int .i64 a1] m [.box a0_b #[.slice a0_b_a a0.b.length a0_b_c, .int .i64 a0.at_, .int .i64 a0.code, .int .i64 a0.pos] a0_T] fun v m' L => L = [.box a0_b #[.slice a0_b_a r.2.b.length a0_b_c, .int .i64 r.2.at_, .int .i64 r.2.code, .int .i64 r.2.pos] a0_T] ∧ v = .int .u64 r.1 ∧ r.2.b = a0.b := by
 unfold G.graftref06_Uint at h
 refine enter (args := [_, _]) 70 Try.func49 rfl rfl (by simp) fun fr hK => ?_
 have hS := St.refl (hO)
 replace hK : Kn 70 fr [(0, .pointer (some ⟨a0_b, 0, none⟩)), (1, .int .i64 a1)] := hK
 refine w_seq (w_region ?_)
 refine qp 4 (.int .u64 0) hK fun fr hK => ?_
 refine wpList_nil (then_n ?_)
 refine w_seq ?_
 refine w_seq (w_region ?_)
 refine qp 7 (.pointer (some ⟨a0_b, 0, none⟩)) hK fun fr hK => ?_
 refine qp 8 (.pointer (some ⟨a0_b, 0, none⟩)) hK fun fr hK => ?_
 refine qp 9 (.pointer (some ⟨a0_b, 2, none⟩)) hK fun fr hK => ?_
 refine qo 10 hK (s_load hK.at_ hS 0 rfl rfl rfl rfl (by kernel_rfl) ?_)
 clear hK fr; intro fr hK
 refine qp 11 (.bool (a0.code != 0)) hK fun fr hK => ?_
 refine wpList_nil (then_n ?_)
 refine w_cond hK rfl (fun hb1 => ?_) (fun hb1 => ?_)
 ·
  replace hK := hK.more (t := 11) (v' := .bool true) rfl (by rw [hb1])
  replace h := ite_t (ne_of_bne hb1) h
  refine w_seq (w_region ?_)
  refine qp 4 (.int .u64 0) hK fun fr hK => ?_
  refine wpList_nil (then_n ?_)
  refine wp_ret ?_
  refine then_r ?_
  replace h := Option.some.inj h; subst h
  replace hS : St _ m m [.box a0_b #[.slice a0_b_a a0.b.length a0_b_c, .int .i64 a0.at_, .int .i64 a0.code, .int .i64 a0.pos] a0_T] := hS
  refine ret_of [.tmp 4] [.int .u64 0] rfl hK (.tmp rfl .nil) hS ?_
  exact ⟨rfl, rfl, rfl⟩
 ·
  replace hK := hK.more (t := 11) (v' := .bool false) rfl (by rw [hb1])
  replace h := ite_f (not_not_intro (eq_of_bne hb1)) h
  refine wp_skip ?_
  refine then_n ?_
  refine w_seq ?_
  refine w_seq ?_
  obtain ⟨v1, hv1, h⟩ := bind_some h
  refine w_join (fun fr ww => ∃ m1 : Mem, m1.w = ww ∧ Kn 70 fr [(0, .pointer (some ⟨a0_b, 0, none⟩)), (1, .int .i64 a1), (17, .bool v1)] ∧ Le m m1 ∧ St (blocksOf [.box a0_b #[.slice a0_b_a a0.b.length a0_b_c, .int .i64 a0.at_, .int .i64 a0.code, .int .i64 a0.pos] a0_T]) m m1 [.box a0_b #[.slice a0_b_a a0.b.length a0_b_c, .int .i64 a0.at_, .int .i64 a0.code, .int .i64 a0.pos] a0_T]) ?_ ?_
  ·
   clear hK hS fr hv1
   rintro fr _ ⟨m1, rfl, hK, l1, hS⟩
   refine then_n ?_
   refine w_cond hK rfl (fun hb2 => ?_) (fun hb2 => ?_)
   ·
    replace hK := hK.more (t := 17) (v' := .bool true) rfl (by rw [hb2])
    replace h := ite_t (hb2) h
    refine w_seq (w_region ?_)
    refine qp 18 (.pointer (some ⟨a0_b, 0, none⟩)) hK fun fr hK => ?_
    refine qp 19 (.pointer (some ⟨a0_b, 0, none⟩)) hK fun fr hK => ?_
    refine qp 20 (.pointer (some ⟨a0_b, 0, none⟩)) hK fun fr hK => ?_
    refine qp 21 (.pointer (some ⟨a0_b, 1, none⟩)) hK fun fr hK => ?_
    refine qo 22 hK (s_load hK.at_ hS 0 rfl rfl rfl rfl (by kernel_rfl) ?_)
    clear hK fr; intro fr hK
    replace a0_b_f := Els.mono rep_U8 a0_b_f l1
    obtain ⟨y1, hy1, h⟩ := bind_some h
    replace hS : St _ m m1 [.box a0_b #[.slice a0_b_a a0.b.length a0_b_c, .int .i64 a0.at_, .int .i64 a0.code, .int .i64 a0.pos] a0_T] := hS
    refine qo 23 hK (s_callM (R := [.box a0_b #[.slice a0_b_a a0.b.length a0_b_c, .int .i64 a0.at_, .int .i64 a0.code, .int .i64 a0.pos] a0_T]) (L := []) hK.at_ hS ent50_6 rfl rfl rfl rfl (G.graftref06_Fail_spec a0_b_f hy1 (Ow.left (L := [.box a0_b #[.slice a0_b_a a0.b.length a0_b_c, .int .i64 a0.at_, .int .i64 a0.code, .int .i64 a0.pos] a0_T]) hS.ow)) (by kernel_rfl) ?_)
    clear hK fr hS; rintro _ m2 _ l2 hS ⟨rfl, rfl, c1re0⟩ fr hK
    replace hS : St _ m m2 [.box a0_b #[.slice a0_b_a y1.b.length a0_b_c, .int .i64 y1.at_, .int .i64 y1.code, .int .i64 y1.pos] a0_T] := hS
    refine wpList_nil (then_n ?_)
    refine w_seq (w_region ?_)
    refine qp 4 (.int .u64 0) hK fun fr hK => ?_
    refine wpList_nil (then_n ?_)
    refine wp_ret ?_
    refine then_r ?_
    replace a0_b_f := Els.mono rep_U8 a0_b_f l2
    have f1 : Els isU8 m2 1 a0_b_a a0_b_c y1.b := Els.cast c1re0.symm a0_b_f
    replace h := Option.some.inj h; subst h
    replace hS : St _ m m2 [.box a0_b #[.slice a0_b_a y1.b.length a0_b_c, .int .i64 y1.at_, .int .i64 y1.code, .int .i64 y1.pos] a0_T] := hS
    refine ret_of [.tmp 4] [.int .u64 0] rfl hK (.tmp rfl .nil) hS ?_
    exact ⟨rfl, rfl, c1re0⟩
   ·
    replace hK := hK.more (t := 17) (v' := .bool false) rfl (by rw [hb2])
    replace h := ite_f (ne_true_of_eq_false hb2) h
    refine wp_skip ?_
    refine then_n ?_
    refine w_seq ?_
    refine w_seq ?_
    replace a0_b_f := Els.mono rep_U8 a0_b_f l1
    have hlt0 : ∀ bq ∈ blocksOf [.box a0_b #[.slice a0_b_a a0.b.length a0_b_c, .int .i64 a0.at_, .int .i64 a0.code, .int .i64 a0.pos] a0_T], bq < m1.w.heap.size := fun bq hbq => hS.ow.lt hbq
    refine D.wp_draw (Gr := D.GO m1 none) (S := D.SO none (blocksOf [.box a0_b #[.slice a0_b_a a0.b.length a0_b_c, .int .i64 a0.at_, .int .i64 a0.code, .int .i64 a0.pos] a0_T]) m m1 (fun _ => [.box a0_b #[.slice a0_b_a a0.b.length a0_b_c, .int .i64 a0.at_, .int .i64 a0.code, .int .i64 a0.pos] a0_T]) (fun _ => True)) (N := 0) 11 [] [([(0, none)], 0, 0, false), ([(24, some 0)], 0, 0, false), ([(25, some 0)], 0, 0, false), ([(26, some 0)], 0, 0, false), ([(27, some 0)], 0, 0, false), ([(0, none)], 0, 0, false), ([(29, some 0)], 0, 0, false), ([(30, some 0)], 0, 0, false), ([(31, some 0)], 0, 0, false), ([(28, some 4), (32, some 0)], 0, 0, false), ([(1, none)], 0, 0, false)] hK.size (by kernel_rfl) (by kernel_rfl) (by kernel_rfl) rfl (D.startO hS trivial) ?_
    refine D.on_pure (D.GO_refl _ _) [(0, .pointer (some ⟨a0_b, 0, none⟩))] (.pointer (some ⟨a0_b, 0, none⟩)) (fun ac ww hk => (.cons (hk.1.trans (hK.at_ 0 _ rfl)) (.nil _))) ?_
    refine D.on_pure (D.GO_refl _ _) [(24, .pointer (some ⟨a0_b, 0, none⟩))] (.pointer (some ⟨a0_b, 0, none⟩)) (fun ac ww hk => (.cons (hk.1) (.nil _))) ?_
    refine D.on_pure (D.GO_refl _ _) [(25, .pointer (some ⟨a0_b, 0, none⟩))] (.pointer (some ⟨a0_b, 0, none⟩)) (fun ac ww hk => (.cons (hk.1) (.nil _))) ?_
    refine D.on_det (D.GO_refl _ _) [(26, .pointer (some ⟨a0_b, 0, none⟩))] (.slice a0_b_a a0.b.length a0_b_c) (fun ac ww hk => (.cons (hk.1) (.nil _))) (fun ac ww kk hb hKe Post hp => (fun hS => s_load hKe hS 0 rfl rfl rfl rfl (by kernel_rfl) hp) hb.2.1) ?_
    refine D.on_pure (D.GO_refl _ _) [(27, .slice a0_b_a a0.b.length a0_b_c)] (.int .i64 (a0.b.length : Int)) (fun ac ww hk => (.cons (hk.1) (.nil _))) ?_
    refine D.on_pure (D.GO_refl _ _) [(0, .pointer (some ⟨a0_b, 0, none⟩))] (.pointer (some ⟨a0_b, 0, none⟩)) (fun ac ww hk => (.cons (hk.1.trans (hK.at_ 0 _ rfl)) (.nil _))) ?_
    refine D.on_pure (D.GO_refl _ _) [(29, .pointer (some ⟨a0_b, 0, none⟩))] (.pointer (some ⟨a0_b, 0, none⟩)) (fun ac ww hk => (.cons (hk.1) (.nil _))) ?_
    refine D.on_pure (D.GO_refl _ _) [(30, .pointer (some ⟨a0_b, 0, none⟩))] (.pointer (some ⟨a0_b, 1, none⟩)) (fun ac ww hk => (.cons (hk.1) (.nil _))) ?_
    refine D.on_det (D.GO_refl _ _) [(31, .pointer (some ⟨a0_b, 1, none⟩))] (.int .i64 a0.at_) (fun ac ww hk => (.cons (hk.1) (.nil _))) (fun ac ww kk hb hKe Post hp => (fun hS => s_load hKe hS 0 rfl rfl rfl rfl (by kernel_rfl) hp) hb.2.1) ?_
    refine D.on_pure (D.GO_refl _ _) [(28, .int .i64 (a0.b.length : Int)), (32, .int .i64 a0.at_)] (.int .i64 (IntKind.i64.wrap ((a0.b.length : Int) - a0.at_))) (fun ac ww hk => (.cons (hk.1) (.cons (hk.2.1) (.nil _)))) ?_
    refine D.on_pure (D.GO_refl _ _) [(1, .int .i64 a1)] (.int .i64 a1) (fun ac ww hk => (.cons (hk.1.trans (hK.at_ 1 _ rfl)) (.nil _))) ?_
    refine D.finO ?_
    intro fr2 m3 hm1 l3 hS2 hF2 hE
    replace hS2 : St _ m m3 [.box a0_b #[.slice a0_b_a a0.b.length a0_b_c, .int .i64 a0.at_, .int .i64 a0.code, .int .i64 a0.pos] a0_T] := hS2
    have hK2 := D.kn_ends [(24, .pointer (some ⟨a0_b, 0, none⟩)), (25, .pointer (some ⟨a0_b, 0, none⟩)), (26, .pointer (some ⟨a0_b, 0, none⟩)), (27, .slice a0_b_a a0.b.length a0_b_c), (28, .int .i64 (a0.b.length : Int)), (29, .pointer (some ⟨a0_b, 0, none⟩)), (30, .pointer (some ⟨a0_b, 0, none⟩)), (31, .pointer (some ⟨a0_b, 1, none⟩)), (32, .int .i64 a0.at_), (33, .int .i64 (IntKind.i64.wrap ((a0.b.length : Int) - a0.at_))), (34, .int .i64 a1)] hK hE rfl (by kernel_rfl) (.cons (hE.slots 24) (.cons (hE.slots 25) (.cons (hE.slots 26) (.cons (hE.slots 27) (.cons (hE.slots 28) (.cons (hE.slots 29) (.cons (hE.slots 30) (.cons (hE.slots 31) (.cons (hE.slots 32) (.cons (hE.slots 33) (.cons (hE.slots 34) (.nil _))))))))))))
    replace hK2 : Kn 70 fr2 [(24, .pointer (some ⟨a0_b, 0, none⟩)), (25, .pointer (some ⟨a0_b, 0, none⟩)), (26, .pointer (some ⟨a0_b, 0, none⟩)), (27, .slice a0_b_a a0.b.length a0_b_c), (28, .int .i64 (a0.b.length : Int)), (29, .pointer (some ⟨a0_b, 0, none⟩)), (30, .pointer (some ⟨a0_b, 0, none⟩)), (31, .pointer (some ⟨a0_b, 1, none⟩)), (32, .int .i64 a0.at_), (33, .int .i64 (IntKind.i64.wrap ((a0.b.length : Int) - a0.at_))), (34, .int .i64 a1), (17, .bool false), (0, .pointer (some ⟨a0_b, 0, none⟩)), (1, .int .i64 a1)] := hK2.only [24, 25, 26, 27, 28, 29, 30, 31, 32, 33, 34, 17, 0, 1]
    clear hE hK; revert hK2; clear hm1 hS hlt0; revert fr2; clear fr; intro fr hK; have hS := hS2; clear hS2
    replace hS : St _ m m3 [.box a0_b #[.slice a0_b_a a0.b.length a0_b_c, .int .i64 a0.at_, .int .i64 a0.code, .int .i64 a0.pos] a0_T] := hS
    refine qp 35 (.bool (decide ((IntKind.i64.wrap ((a0.b.length : Int) - a0.at_)) < a1))) hK fun fr hK => ?_
    refine wpList_nil (then_n ?_)
    refine w_cond hK rfl (fun hb3 => ?_) (fun hb3 => ?_)
    ·
     replace hK := hK.more (t := 35) (v' := .bool true) rfl (by rw [hb3])
     replace h := ite_t (of_decide_eq_true hb3) h
     refine w_seq (w_region ?_)
     refine qp 36 (.pointer (some ⟨a0_b, 0, none⟩)) hK fun fr hK => ?_
     refine qp 37 (.pointer (some ⟨a0_b, 0, none⟩)) hK fun fr hK => ?_
     refine qp 38 (.pointer (some ⟨a0_b, 0, none⟩)) hK fun fr hK => ?_
     refine qp 39 (.pointer (some ⟨a0_b, 0, none⟩)) hK fun fr hK => ?_
     refine qo 40 hK (s_load hK.at_ hS 0 rfl rfl rfl rfl (by kernel_rfl) ?_)
     clear hK fr; intro fr hK
     refine qp 41 (.int .i64 (a0.b.length : Int)) hK fun fr hK => ?_
     replace a0_b_f := Els.mono rep_U8 a0_b_f l3
     obtain ⟨y2, hy2, h⟩ := bind_some h
     replace hS : St _ m m3 [.box a0_b #[.slice a0_b_a a0.b.length a0_b_c, .int .i64 a0.at_, .int .i64 a0.code, .int .i64 a0.pos] a0_T] := hS
     refine qo 42 hK (s_callM (R := [.box a0_b #[.slice a0_b_a a0.b.length a0_b_c, .int .i64 a0.at_, .int .i64 a0.code, .int .i64 a0.pos] a0_T]) (L := []) hK.at_ hS ent50_6 rfl rfl rfl rfl (G.graftref06_Fail_spec a0_b_f hy2 (Ow.left (L := [.box a0_b #[.slice a0_b_a a0.b.length a0_b_c, .int .i64 a0.at_, .int .i64 a0.code, .int .i64 a0.pos] a0_T]) hS.ow)) (by kernel_rfl) ?_)
     clear hK fr hS; rintro _ m4 _ l4 hS ⟨rfl, rfl, c2re0⟩ fr hK
     replace hS : St _ m m4 [.box a0_b #[.slice a0_b_a y2.b.length a0_b_c, .int .i64 y2.at_, .int .i64 y2.code, .int .i64 y2.pos] a0_T] := hS
     refine wpList_nil (then_n ?_)
     refine w_seq (w_region ?_)
     refine qp 4 (.int .u64 0) hK fun fr hK => ?_
     refine wpList_nil (then_n ?_)
     refine wp_ret ?_
     refine then_r ?_
     replace a0_b_f := Els.mono rep_U8 a0_b_f l4
     have f2 : Els isU8 m4 1 a0_b_a a0_b_c y2.b := Els.cast c2re0.symm a0_b_f
     replace h := Option.some.inj h; subst h
     replace hS : St _ m m4 [.box a0_b #[.slice a0_b_a y2.b.length a0_b_c, .int .i64 y2.at_, .int .i64 y2.code, .int .i64 y2.pos] a0_T] := hS
     refine ret_of [.tmp 4] [.int .u64 0] rfl hK (.tmp rfl .nil) hS ?_
     exact ⟨rfl, rfl, c2re0⟩
    ·
     replace hK := hK.more (t := 35) (v' := .bool false) rfl (by rw [hb3])
     replace h := ite_f (of_decide_eq_false hb3) h
     refine wp_skip ?_
     refine then_n ?_
     refine w_seq (w_region ?_)
     refine qp 5 (.int .u64 0) hK fun fr hK => ?_
     refine wpList_nil (then_n ?_)
     refine w_seq ?_
     refine w_seq (w_region ?_)
     refine qp 6 (.int .i64 0) hK fun fr hK => ?_
     refine wpList_nil (then_n ?_)
     refine wp_block ?_
     replace hS : St _ m m3 [.box a0_b #[.slice a0_b_a a0.b.length a0_b_c, .int .i64 a0.at_, .int .i64 a0.code, .int .i64 a0.pos] a0_T] := hS
     refine w_loopL h (fun (s1 : Int × Int × Int) fr ww => ∃ m5 : Mem, m5.w = ww ∧ Kn 70 fr [(0, .pointer (some ⟨a0_b, 0, none⟩)), (1, .int .i64 a1), (5, .int .u64 s1.2.1), (6, .int .i64 s1.2.2)] ∧ Le m3 m5 ∧ St (blocksOf [.box a0_b #[.slice a0_b_a a0.b.length a0_b_c, .int .i64 a0.at_, .int .i64 a0.code, .int .i64 a0.pos] a0_T]) m m5 [.box a0_b #[.slice a0_b_a a0.b.length a0_b_c, .int .i64 s1.1, .int .i64 a0.code, .int .i64 a0.pos] a0_T]) ?_ ?_
     · exact ⟨m3, rfl, hK.only [0, 1, 5, 6], Le.refl _, hS⟩
     clear hK hS fr h
     rintro k1 s1 x1 fr _ ⟨m5, rfl, hK, l5, hS⟩ h hn1
     unfold G.graftref06_Uint_l1 at h
     refine w_seq ?_
     refine w_seq (w_region ?_)
     refine qp 43 (.int .i64 s1.2.2) hK fun fr hK => ?_
     refine qp 44 (.int .i64 a1) hK fun fr hK => ?_
     refine qp 45 (.bool (decide (s1.2.2 < a1))) hK fun fr hK => ?_
     refine wpList_nil (then_n ?_)
     refine w_cond hK rfl (fun hb4 => ?_) (fun hb4 => ?_)
     ·
      replace hK := hK.more (t := 45) (v' := .bool true) rfl (by rw [hb4])
      replace h := ite_t (of_decide_eq_true hb4) h
      refine wp_skip ?_
      refine then_n ?_
      refine w_seq ?_
      refine wp_block ?_
      refine w_seq ?_
      replace a0_b_f := Els.mono rep_U8 a0_b_f (l3.trans l5)
      obtain ⟨x2, hy3, h⟩ := bind_some h
      have hlt0 : ∀ bq ∈ blocksOf [.box a0_b #[.slice a0_b_a a0.b.length a0_b_c, .int .i64 s1.1, .int .i64 a0.code, .int .i64 a0.pos] a0_T], bq < m5.w.heap.size := fun bq hbq => hS.ow.lt hbq
      refine D.wp_draw (Gr := D.GO m5 none) (S := D.SO none (blocksOf [.box a0_b #[.slice a0_b_a a0.b.length a0_b_c, .int .i64 a0.at_, .int .i64 a0.code, .int .i64 a0.pos] a0_T]) m m5 (fun _ => [.box a0_b #[.slice a0_b_a a0.b.length a0_b_c, .int .i64 s1.1, .int .i64 a0.code, .int .i64 a0.pos] a0_T]) (fun _ => True)) (N := 0) 13 [] [([(5, none)], 0, 0, false), ([(48, some 0)], 0, 0, false), ([(0, none)], 0, 0, false), ([(50, some 0)], 0, 0, false), ([(51, some 0)], 0, 0, false), ([(52, some 0)], 0, 0, false), ([(0, none)], 0, 0, false), ([(54, some 0)], 0, 0, false), ([(55, some 0)], 0, 0, false), ([(56, some 0)], 0, 0, false), ([(53, some 4), (57, some 0)], 0, 0, false), ([(58, some 0)], 0, 0, false), ([(59, some 0)], 0, 0, false)] hK.size (by kernel_rfl) (by kernel_rfl) (by kernel_rfl) rfl (D.startO hS trivial) ?_
      refine D.on_pure (D.GO_refl _ _) [(5, .int .u64 s1.2.1)] (.int .u64 s1.2.1) (fun ac ww hk => (.cons (hk.1.trans (hK.at_ 5 _ rfl)) (.nil _))) ?_
      refine D.on_pure (D.GO_refl _ _) [(48, .int .u64 s1.2.1)] (.int .u64 (IntKind.u64.wrap (256 * s1.2.1))) (fun ac ww hk => (.cons (hk.1) (.nil _))) ?_
      refine D.on_pure (D.GO_refl _ _) [(0, .pointer (some ⟨a0_b, 0, none⟩))] (.pointer (some ⟨a0_b, 0, none⟩)) (fun ac ww hk => (.cons (hk.1.trans (hK.at_ 0 _ rfl)) (.nil _))) ?_
      refine D.on_pure (D.GO_refl _ _) [(50, .pointer (some ⟨a0_b, 0, none⟩))] (.pointer (some ⟨a0_b, 0, none⟩)) (fun ac ww hk => (.cons (hk.1) (.nil _))) ?_
      refine D.on_pure (D.GO_refl _ _) [(51, .pointer (some ⟨a0_b, 0, none⟩))] (.pointer (some ⟨a0_b, 0, none⟩)) (fun ac ww hk => (.cons (hk.1) (.nil _))) ?_
      refine D.on_det (D.GO_refl _ _) [(52, .pointer (some ⟨a0_b, 0, none⟩))] (.slice a0_b_a a0.b.length a0_b_c) (fun ac ww hk => (.cons (hk.1) (.nil _))) (fun ac ww kk hb hKe Post hp => (fun hS => s_load hKe hS 0 rfl rfl rfl rfl (by kernel_rfl) hp) hb.2.1) ?_
      refine D.on_pure (D.GO_refl _ _) [(0, .pointer (some ⟨a0_b, 0, none⟩))] (.pointer (some ⟨a0_b, 0, none⟩)) (fun ac ww hk => (.cons (hk.1.trans (hK.at_ 0 _ rfl)) (.nil _))) ?_
      refine D.on_pure (D.GO_refl _ _) [(54, .pointer (some ⟨a0_b, 0, none⟩))] (.pointer (some ⟨a0_b, 0, none⟩)) (fun ac ww hk => (.cons (hk.1) (.nil _))) ?_
      refine D.on_pure (D.GO_refl _ _) [(55, .pointer (some ⟨a0_b, 0, none⟩))] (.pointer (some ⟨a0_b, 1, none⟩)) (fun ac ww hk => (.cons (hk.1) (.nil _))) ?_
      refine D.on_det (D.GO_refl _ _) [(56, .pointer (some ⟨a0_b, 1, none⟩))] (.int .i64 s1.1) (fun ac ww hk => (.cons (hk.1) (.nil _))) (fun ac ww kk hb hKe Post hp => (fun hS => s_load hKe hS 0 rfl rfl rfl rfl (by kernel_rfl) hp) hb.2.1) ?_
      refine D.on_op (fun uu ww => ∃ (b1 : Nat) (p1 : Nat), uu = .pointer (some ⟨b1, p1, none⟩) ∧ At (m5.upO none ww) b1 p1 [.int .u8 (x2.toNat : Int)]) (fun _ _ _ ⟨b1, p1, e, hA1⟩ g => ⟨b1, p1, e, hA1.mono g.1⟩) (by
       intro ac ww kk hlo hhi hb hk
       obtain rfl : kk = 0 := by omega
       have h0 := hS; replace hS := hb.2.1
       have k53 : ac.eval (.tmp 53) = .slice a0_b_a a0.b.length a0_b_c := hk.1
       have k57 : ac.eval (.tmp 57) = .int .i64 s1.1 := hk.2.1
       have hKe : Ke ac [(53, .slice a0_b_a a0.b.length a0_b_c), (57, .int .i64 s1.1)] := (.cons k53 (.cons k57 (.nil _)))
       replace a0_b_f := Els.mono rep_U8 a0_b_f hb.1
       exact ⟨D.wanted0 rfl, (s_idx elT22_6 a0_b_f hy3 hKe rfl rfl rfl (by
    intro b1 p1 cs1 hR1 hA1
    obtain rfl := hR1
    exact ⟨⟨b1, p1, rfl, hA1⟩, D.GO_refl _ _ _, hb⟩))⟩) ?_
      refine D.on_op (fun uu _ => uu = .int .u8 (x2.toNat : Int)) (fun _ _ _ h _ => h) (by
       intro ac ww kk hlo hhi hb hk
       obtain rfl : kk = 0 := by omega
       have h0 := hS; replace hS := hb.2.1
       obtain ⟨b1, p1, k58, hA1⟩ : ∃ (b1 : Nat) (p1 : Nat), ac.eval (.tmp 58) = .pointer (some ⟨b1, p1, none⟩) ∧ At (m5.upO none ww) b1 p1 [.int .u8 (x2.toNat : Int)] := hk.1
       have hKe : Ke ac [(58, .pointer (some ⟨b1, p1, none⟩))] := (.cons k58 (.nil _))
       exact ⟨D.wanted0 rfl, D.valO (m := m5) hb (fun Post hp => s_loadAt hKe hA1 0 rfl rfl rfl rfl (by kernel_rfl) hp) rfl⟩) ?_
      refine D.on_det (D.GO_refl _ _) [(59, .int .u8 (x2.toNat : Int))] (.int .u64 (x2.toNat : Int)) (fun ac ww hk => (.cons (hk.1) (.nil _))) (fun ac ww kk hb hKe Post hp => s_pureE (.int .u64 (x2.toNat : Int)) (.int .u64 (IntKind.u64.wrap (x2.toNat : Int))) hKe (by kernel_rfl) (by kernel_rfl) (by exact v_int (conv8 rfl _)) hp) ?_
      refine D.finO ?_
      intro fr2 m6 hm1 l6 hS2 hF2 hE
      replace hS2 : St _ m m6 [.box a0_b #[.slice a0_b_a a0.b.length a0_b_c, .int .i64 s1.1, .int .i64 a0.code, .int .i64 a0.pos] a0_T] := hS2
      have hK2 := D.kn_ends [(48, .int .u64 s1.2.1), (49, .int .u64 (IntKind.u64.wrap (256 * s1.2.1))), (50, .pointer (some ⟨a0_b, 0, none⟩)), (51, .pointer (some ⟨a0_b, 0, none⟩)), (52, .pointer (some ⟨a0_b, 0, none⟩)), (53, .slice a0_b_a a0.b.length a0_b_c), (54, .pointer (some ⟨a0_b, 0, none⟩)), (55, .pointer (some ⟨a0_b, 0, none⟩)), (56, .pointer (some ⟨a0_b, 1, none⟩)), (57, .int .i64 s1.1), (58, fr2.eval (.tmp 58)), (59, .int .u8 (x2.toNat : Int)), (60, .int .u64 (x2.toNat : Int))] hK hE rfl (by kernel_rfl) (.cons (hE.slots 48) (.cons (hE.slots 49) (.cons (hE.slots 50) (.cons (hE.slots 51) (.cons (hE.slots 52) (.cons (hE.slots 53) (.cons (hE.slots 54) (.cons (hE.slots 55) (.cons (hE.slots 56) (.cons (hE.slots 57) (.cons (rfl) (.cons (hE.slots 59) (.cons (hE.slots 60) (.nil _))))))))))))))
      replace hK2 : Kn 70 fr2 [(48, .int .u64 s1.2.1), (49, .int .u64 (IntKind.u64.wrap (256 * s1.2.1))), (50, .pointer (some ⟨a0_b, 0, none⟩)), (51, .pointer (some ⟨a0_b, 0, none⟩)), (52, .pointer (some ⟨a0_b, 0, none⟩)), (53, .slice a0_b_a a0.b.length a0_b_c), (54, .pointer (some ⟨a0_b, 0, none⟩)), (55, .pointer (some ⟨a0_b, 0, none⟩)), (56, .pointer (some ⟨a0_b, 1, none⟩)), (57, .int .i64 s1.1), (59, .int .u8 (x2.toNat : Int)), (60, .int .u64 (x2.toNat : Int)), (45, .bool true), (44, .int .i64 a1), (43, .int .i64 s1.2.2), (0, .pointer (some ⟨a0_b, 0, none⟩)), (1, .int .i64 a1), (5, .int .u64 s1.2.1), (6, .int .i64 s1.2.2)] := hK2.only [48, 49, 50, 51, 52, 53, 54, 55, 56, 57, 59, 60, 45, 44, 43, 0, 1, 5, 6]
      clear hE hK; revert hK2; clear hm1 hS hlt0; revert fr2; clear fr; intro fr hK; have hS := hS2; clear hS2
      replace hS : St _ m m6 [.box a0_b #[.slice a0_b_a a0.b.length a0_b_c, .int .i64 s1.1, .int .i64 a0.code, .int .i64 a0.pos] a0_T] := hS
      refine qp 61 (.int .u64 (IntKind.u64.wrap ((IntKind.u64.wrap (256 * s1.2.1)) + (x2.toNat : Int)))) hK fun fr hK => ?_
      refine qp 5 (.int .u64 (IntKind.u64.wrap ((IntKind.u64.wrap (256 * s1.2.1)) + (x2.toNat : Int)))) hK fun fr hK => ?_
      refine wpList_nil (then_n ?_)
      refine w_region ?_
      refine qp 62 (.pointer (some ⟨a0_b, 0, none⟩)) hK fun fr hK => ?_
      refine qp 63 (.pointer (some ⟨a0_b, 0, none⟩)) hK fun fr hK => ?_
      refine qp 64 (.pointer (some ⟨a0_b, 1, none⟩)) hK fun fr hK => ?_
      refine qo 65 hK (s_load hK.at_ hS 0 rfl rfl rfl rfl (by kernel_rfl) ?_)
      clear hK fr; intro fr hK
      refine qp 66 (.int .i64 (IntKind.i64.wrap (s1.1 + 1))) hK fun fr hK => ?_
      refine qp 67 (.pointer (some ⟨a0_b, 0, none⟩)) hK fun fr hK => ?_
      refine qp 68 (.pointer (some ⟨a0_b, 1, none⟩)) hK fun fr hK => ?_
      refine qo0 hK (s_store hK.at_ 0 hS rfl rfl rfl rfl (by kernel_rfl) (by kernel_rfl) (by kernel_rfl) ?_)
      clear hK fr hS; intro m7 l7 hS fr hK
      replace hS : St _ m m7 [.box a0_b #[.slice a0_b_a a0.b.length a0_b_c, .int .i64 (IntKind.i64.wrap (s1.1 + 1)), .int .i64 a0.code, .int .i64 a0.pos] a0_T] := hS
      refine wpList_nil ?_
      refine blk_n ?_
      refine then_n ?_
      refine w_region ?_
      refine qp 46 (.int .i64 s1.2.2) hK fun fr hK => ?_
      refine qp 47 (.int .i64 (IntKind.i64.wrap (s1.2.2 + 1))) hK fun fr hK => ?_
      refine qp 6 (.int .i64 (IntKind.i64.wrap (s1.2.2 + 1))) hK fun fr hK => ?_
      refine wpList_nil (then_n ?_)
      replace hS : St _ m m7 [.box a0_b #[.slice a0_b_a a0.b.length a0_b_c, .int .i64 (IntKind.i64.wrap (s1.1 + 1)), .int .i64 a0.code, .int .i64 a0.pos] a0_T] := hS
      replace h := Option.some.inj h; subst h
      obtain ⟨kq, hk1, hk2⟩ := hn1
      exact ⟨kq, hk1, _, hk2, m7, rfl, hK.only [0, 1, 5, 6], l5.trans (l6.trans l7), hS⟩
     ·
      replace hK := hK.more (t := 45) (v' := .bool false) rfl (by rw [hb4])
      replace h := ite_f (of_decide_eq_false hb4) h
      refine wp_exit ?_
      refine then_x ?_
      refine then_x ?_
      refine blk_e ?_
      refine then_n ?_
      refine w_seq (w_region ?_)
      refine qp 69 (.int .u64 s1.2.1) hK fun fr hK => ?_
      refine qp 4 (.int .u64 s1.2.1) hK fun fr hK => ?_
      refine wpList_nil (then_n ?_)
      refine wp_ret ?_
      replace a0_b_f := Els.mono rep_U8 a0_b_f (l3.trans l5)
      replace h := Option.some.inj h; subst h
      replace h := Option.some.inj (loop_out hn1); subst h
      replace hS : St _ m m5 [.box a0_b #[.slice a0_b_a a0.b.length a0_b_c, .int .i64 s1.1, .int .i64 a0.code, .int .i64 a0.pos] a0_T] := hS
      refine ret_of [.tmp 4] [.int .u64 s1.2.1] rfl hK (.tmp rfl .nil) hS ?_
      exact ⟨rfl, rfl, rfl⟩
  ·
   replace h := hv1; clear hv1
   refine w_region ?_
   refine qp 12 (.int .i64 a1) hK fun fr hK => ?_
   refine qp 13 (.bool (decide (a1 < 1))) hK fun fr hK => ?_
   refine qp 14 (.bool (decide (a1 < 1))) hK fun fr hK => ?_
   refine split_b (x := decide (a1 < 1)) (fun hb5 => ?_) (fun hb5 => ?_)
   ·
    replace hK := hK.more (t := 14) (v' := .bool true) rfl (by rw [hb5])
    replace hK := hK.more (t := 13) (v' := .bool true) rfl (by rw [hb5])
    replace h := ite_t (of_decide_eq_true hb5) h
    refine qs 15 hK ?_
    clear hK fr; intro fr hK
    refine qs 16 hK ?_
    clear hK fr; intro fr hK
    refine qp 17 (.bool true) hK fun fr hK => ?_
    refine wpList_nil (then_n ?_)
    replace hS : St _ m m [.box a0_b #[.slice a0_b_a a0.b.length a0_b_c, .int .i64 a0.at_, .int .i64 a0.code, .int .i64 a0.pos] a0_T] := hS
    replace h := Option.some.inj h; subst h
    exact ⟨m, rfl, hK.only [0, 1, 17], Le.refl _, hS⟩
   ·
    replace hK := hK.more (t := 14) (v' := .bool false) rfl (by rw [hb5])
    replace hK := hK.more (t := 13) (v' := .bool false) rfl (by rw [hb5])
    replace h := ite_f (of_decide_eq_false hb5) h
    refine qp 15 (.int .i64 a1) hK fun fr hK => ?_
    refine qp 16 (.bool (decide (a1 > 8))) hK fun fr hK => ?_
    refine qp 17 (.bool (decide (a1 > 8))) hK fun fr hK => ?_
    refine wpList_nil (then_n ?_)
    replace hS : St _ m m [.box a0_b #[.slice a0_b_a a0.b.length a0_b_c, .int .i64 a0.at_, .int .i64 a0.code, .int .i64 a0.pos] a0_T] := hS
    replace h := Option.some.inj h; subst h
    exact ⟨m, rfl, hK.only [0, 1, 17], Le.refl _, hS⟩
set_option maxRecDepth 100000 in
set_option maxHeartbeats 1000000 in
theorem G.graftref06_Length_spec {m : Mem} {a0 : G.graftref06_Reader} {a0_b : Nat} {a0_b_a : Option Addr} {a0_b_c : Nat} {a0_T : TypeId} (a0_b_f : Els isU8 m 1 a0_b_a a0_b_c a0.b) {r : Int × G.graftref06_Reader} (h : G.graftref06_Length a0 = some r) (hO : Ow m [.box a0_b #[.slice a0_b_a a0.b.length a0_b_c, .int .i64 a0.at_, .int .i64 a0.code, .int .i64 a0.pos] a0_T]) :
  Spec Try.prog 51 #[.pointer (some ⟨a0_b, 0, none⟩)] m [.box a0_b #[.slice a0_b_a a0.b.length a0_b_c, .int .i64 a0.at_, .int .i64 a0.code, .int .i64 a0.pos] a0_T] fun v m' L => L = [.box a0_b #[.slice a0_b_a r.2.b.length a0_b_c, .int .i64 r.2.at_, .int .i64 r.2.code, .int .i64 r.2.pos] a0_T] ∧ v = .int .i64 r.1 ∧ r.2.b = a0.b := by
 unfold G.graftref06_Length at h
 refine enter (args := [_]) 18 Try.func51 rfl rfl (by simp) fun fr hK => ?_
 have hS := St.refl (hO)
 replace hK : Kn 18 fr [(0, .pointer (some ⟨a0_b, 0, none⟩))] := hK
 refine w_seq (w_region ?_)
 refine qp 2 (.int .i64 0) hK fun fr hK => ?_
 refine wpList_nil (then_n ?_)
 refine w_seq (w_region ?_)
 refine qp 5 (.pointer (some ⟨a0_b, 0, none⟩)) hK fun fr hK => ?_
 refine qp 6 (.pointer (some ⟨a0_b, 0, none⟩)) hK fun fr hK => ?_
 refine qp 7 (.pointer (some ⟨a0_b, 1, none⟩)) hK fun fr hK => ?_
 refine qo 8 hK (s_load hK.at_ hS 0 rfl rfl rfl rfl (by kernel_rfl) ?_)
 clear hK fr; intro fr hK
 refine qp 3 (.int .i64 a0.at_) hK fun fr hK => ?_
 refine wpList_nil (then_n ?_)
 refine w_seq (w_region ?_)
 refine qp 9 (.pointer (some ⟨a0_b, 0, none⟩)) hK fun fr hK => ?_
 obtain ⟨y1, hy1, h⟩ := bind_some h
 replace hS : St _ m m [.box a0_b #[.slice a0_b_a a0.b.length a0_b_c, .int .i64 a0.at_, .int .i64 a0.code, .int .i64 a0.pos] a0_T] := hS
 refine qo 10 hK (s_callM (R := [.box a0_b #[.slice a0_b_a a0.b.length a0_b_c, .int .i64 a0.at_, .int .i64 a0.code, .int .i64 a0.pos] a0_T]) (L := []) hK.at_ hS ent49_6 rfl rfl rfl rfl (G.graftref06_Uint_spec a0_b_f hy1 (Ow.left (L := [.box a0_b #[.slice a0_b_a a0.b.length a0_b_c, .int .i64 a0.at_, .int .i64 a0.code, .int .i64 a0.pos] a0_T]) hS.ow)) (by kernel_rfl) ?_)
 clear hK fr hS; rintro _ m1 _ l1 hS ⟨rfl, rfl, c1re0⟩ fr hK
 replace hS : St _ m m1 [.box a0_b #[.slice a0_b_a y1.2.b.length a0_b_c, .int .i64 y1.2.at_, .int .i64 y1.2.code, .int .i64 y1.2.pos] a0_T] := hS
 refine qp 4 (.int .u64 y1.1) hK fun fr hK => ?_
 refine wpList_nil (then_n ?_)
 refine w_seq ?_
 refine w_seq (w_region ?_)
 refine qp 11 (.int .u64 y1.1) hK fun fr hK => ?_
 refine qp 12 (.bool (decide (y1.1 > 4611686018427387903))) hK fun fr hK => ?_
 refine wpList_nil (then_n ?_)
 refine w_cond hK rfl (fun hb1 => ?_) (fun hb1 => ?_)
 ·
  replace hK := hK.more (t := 12) (v' := .bool true) rfl (by rw [hb1])
  replace h := ite_t (of_decide_eq_true hb1) h
  refine w_seq (w_region ?_)
  refine qp 13 (.pointer (some ⟨a0_b, 0, none⟩)) hK fun fr hK => ?_
  refine qp 14 (.int .i64 a0.at_) hK fun fr hK => ?_
  replace a0_b_f := Els.mono rep_U8 a0_b_f l1
  have f1 : Els isU8 m1 1 a0_b_a a0_b_c y1.2.b := Els.cast c1re0.symm a0_b_f
  obtain ⟨y2, hy2, h⟩ := bind_some h
  replace hS : St _ m m1 [.box a0_b #[.slice a0_b_a y1.2.b.length a0_b_c, .int .i64 y1.2.at_, .int .i64 y1.2.code, .int .i64 y1.2.pos] a0_T] := hS
  refine qo 15 hK (s_callM (R := [.box a0_b #[.slice a0_b_a y1.2.b.length a0_b_c, .int .i64 y1.2.at_, .int .i64 y1.2.code, .int .i64 y1.2.pos] a0_T]) (L := []) hK.at_ hS ent50_6 rfl rfl rfl rfl (G.graftref06_Fail_spec f1 hy2 (Ow.left (L := [.box a0_b #[.slice a0_b_a y1.2.b.length a0_b_c, .int .i64 y1.2.at_, .int .i64 y1.2.code, .int .i64 y1.2.pos] a0_T]) hS.ow)) (by kernel_rfl) ?_)
  clear hK fr hS; rintro _ m2 _ l2 hS ⟨rfl, rfl, c2re0⟩ fr hK
  replace hS : St _ m m2 [.box a0_b #[.slice a0_b_a y2.b.length a0_b_c, .int .i64 y2.at_, .int .i64 y2.code, .int .i64 y2.pos] a0_T] := hS
  refine wpList_nil (then_n ?_)
  refine w_seq (w_region ?_)
  refine qp 2 (.int .i64 0) hK fun fr hK => ?_
  refine wpList_nil (then_n ?_)
  refine wp_ret ?_
  refine then_r ?_
  replace f1 := Els.mono rep_U8 f1 l2
  have f2 : Els isU8 m2 1 a0_b_a a0_b_c y2.b := Els.cast c2re0.symm f1
  replace h := Option.some.inj h; subst h
  replace hS : St _ m m2 [.box a0_b #[.slice a0_b_a y2.b.length a0_b_c, .int .i64 y2.at_, .int .i64 y2.code, .int .i64 y2.pos] a0_T] := hS
  refine ret_of [.tmp 2] [.int .i64 0] rfl hK (.tmp rfl .nil) hS ?_
  exact ⟨rfl, rfl, (c2re0.trans c1re0)⟩
 ·
  replace hK := hK.more (t := 12) (v' := .bool false) rfl (by rw [hb1])
  replace h := ite_f (of_decide_eq_false hb1) h
  refine wp_skip ?_
  refine then_n ?_
  refine w_seq (w_region ?_)
  refine qp 16 (.int .u64 y1.1) hK fun fr hK => ?_
  refine qp 17 (.int .i64 (IntKind.i64.wrap y1.1)) hK fun fr hK => ?_
  refine qp 2 (.int .i64 (IntKind.i64.wrap y1.1)) hK fun fr hK => ?_
  refine wpList_nil (then_n ?_)
  refine wp_ret ?_
  replace a0_b_f := Els.mono rep_U8 a0_b_f l1
  have f1 : Els isU8 m1 1 a0_b_a a0_b_c y1.2.b := Els.cast c1re0.symm a0_b_f
  replace h := Option.some.inj h; subst h
  replace hS : St _ m m1 [.box a0_b #[.slice a0_b_a y1.2.b.length a0_b_c, .int .i64 y1.2.at_, .int .i64 y1.2.code, .int .i64 y1.2.pos] a0_T] := hS
  refine ret_of [.tmp 2] [.int .i64 (IntKind.i64.wrap y1.1)] rfl hK (.tmp rfl .nil) hS ?_
  exact ⟨rfl, rfl, c1re0⟩
set_option maxRecDepth 100000 in
set_option maxHeartbeats 1000000 in
theorem G.graftref06_Bytes_spec {m : Mem} {a0 : G.graftref06_Reader} {a0_b : Nat} {a0_b_a : Option Addr} {a0_b_c : Nat} {a0_T : TypeId} {a1 : Int} (a0_b_f : Els isU8 m 1 a0_b_a a0_b_c a0.b) {r : (List UInt8) × G.graftref06_Reader} (h : G.graftref06_Bytes a0 a1 = some r) (hO : Ow m [.box a0_b #[.slice a0_b_a a0.b.length a0_b_c, .int .i64 a0.at_, .int .i64 a0.code, .int .i64 a0.pos] a0_T]) :
  Spec Try.prog 52 #[.pointer (some ⟨a0_b, 0, none⟩), .int .i64 a1] m [.box a0_b #[.slice a0_b_a a0.b.length a0_b_c, .int .i64 a0.at_, .int .i64 a0.code, .int .i64 a0.pos] a0_T] fun v m' L => ∃ (r0_a : Option Addr) (r0_c : Nat), L = [.box a0_b #[.slice a0_b_a r.2.b.length a0_b_c, .int .i64 r.2.at_, .int .i64 r.2.code, .int .i64 r.2.pos] a0_T] ∧ v = .slice r0_a r.1.length r0_c ∧ Els isU8 m' 1 r0_a r0_c r.1 ∧ r.2.b = a0.b := by
 unfold G.graftref06_Bytes at h
 refine enter (args := [_, _]) 63 Try.func52 rfl rfl (by simp) fun fr hK => ?_
 have hS := St.refl (hO)
 replace hK : Kn 63 fr [(0, .pointer (some ⟨a0_b, 0, none⟩)), (1, .int .i64 a1)] := hK
 refine w_seq (w_region ?_)
 refine qp 4 (.slice none 0 0) hK fun fr hK => ?_
 refine wpList_nil (then_n ?_)
 refine w_seq ?_
 refine w_seq (w_region ?_)
 refine qp 6 (.pointer (some ⟨a0_b, 0, none⟩)) hK fun fr hK => ?_
 refine qp 7 (.pointer (some ⟨a0_b, 0, none⟩)) hK fun fr hK => ?_
 refine qp 8 (.pointer (some ⟨a0_b, 2, none⟩)) hK fun fr hK => ?_
 refine qo 9 hK (s_load hK.at_ hS 0 rfl rfl rfl rfl (by kernel_rfl) ?_)
 clear hK fr; intro fr hK
 refine qp 10 (.bool (a0.code != 0)) hK fun fr hK => ?_
 refine wpList_nil (then_n ?_)
 refine w_cond hK rfl (fun hb1 => ?_) (fun hb1 => ?_)
 ·
  replace hK := hK.more (t := 10) (v' := .bool true) rfl (by rw [hb1])
  replace h := ite_t (ne_of_bne hb1) h
  refine w_seq (w_region ?_)
  refine qp 4 (.slice none 0 0) hK fun fr hK => ?_
  refine wpList_nil (then_n ?_)
  refine wp_ret ?_
  refine then_r ?_
  replace h := Option.some.inj h; subst h
  replace hS : St _ m m [.box a0_b #[.slice a0_b_a a0.b.length a0_b_c, .int .i64 a0.at_, .int .i64 a0.code, .int .i64 a0.pos] a0_T] := hS
  refine ret_of [.tmp 4] [.slice none 0 0] rfl hK (.tmp rfl .nil) hS ?_
  exact ⟨none, 0, rfl, rfl, (Els.nil _ _), rfl⟩
 ·
  replace hK := hK.more (t := 10) (v' := .bool false) rfl (by rw [hb1])
  replace h := ite_f (not_not_intro (eq_of_bne hb1)) h
  refine wp_skip ?_
  refine then_n ?_
  refine w_seq ?_
  refine w_seq (w_region ?_)
  refine qp 11 (.int .i64 a1) hK fun fr hK => ?_
  refine qp 12 (.bool (decide (a1 < 0))) hK fun fr hK => ?_
  refine wpList_nil (then_n ?_)
  refine w_cond hK rfl (fun hb2 => ?_) (fun hb2 => ?_)
  ·
   replace hK := hK.more (t := 12) (v' := .bool true) rfl (by rw [hb2])
   replace h := ite_t (of_decide_eq_true hb2) h
   refine w_seq (w_region ?_)
   refine qp 13 (.pointer (some ⟨a0_b, 0, none⟩)) hK fun fr hK => ?_
   refine qp 14 (.pointer (some ⟨a0_b, 0, none⟩)) hK fun fr hK => ?_
   refine qp 15 (.pointer (some ⟨a0_b, 0, none⟩)) hK fun fr hK => ?_
   refine qp 16 (.pointer (some ⟨a0_b, 1, none⟩)) hK fun fr hK => ?_
   refine qo 17 hK (s_load hK.at_ hS 0 rfl rfl rfl rfl (by kernel_rfl) ?_)
   clear hK fr; intro fr hK
   obtain ⟨y1, hy1, h⟩ := bind_some h
   replace hS : St _ m m [.box a0_b #[.slice a0_b_a a0.b.length a0_b_c, .int .i64 a0.at_, .int .i64 a0.code, .int .i64 a0.pos] a0_T] := hS
   refine qo 18 hK (s_callM (R := [.box a0_b #[.slice a0_b_a a0.b.length a0_b_c, .int .i64 a0.at_, .int .i64 a0.code, .int .i64 a0.pos] a0_T]) (L := []) hK.at_ hS ent50_6 rfl rfl rfl rfl (G.graftref06_Fail_spec a0_b_f hy1 (Ow.left (L := [.box a0_b #[.slice a0_b_a a0.b.length a0_b_c, .int .i64 a0.at_, .int .i64 a0.code, .int .i64 a0.pos] a0_T]) hS.ow)) (by kernel_rfl) ?_)
   clear hK fr hS; rintro _ m1 _ l1 hS ⟨rfl, rfl, c1re0⟩ fr hK
   replace hS : St _ m m1 [.box a0_b #[.slice a0_b_a y1.b.length a0_b_c, .int .i64 y1.at_, .int .i64 y1.code, .int .i64 y1.pos] a0_T] := hS
   refine wpList_nil (then_n ?_)
   refine w_seq (w_region ?_)
   refine qp 4 (.slice none 0 0) hK fun fr hK => ?_
   refine wpList_nil (then_n ?_)
   refine wp_ret ?_
   refine then_r ?_
   replace a0_b_f := Els.mono rep_U8 a0_b_f l1
   have f1 : Els isU8 m1 1 a0_b_a a0_b_c y1.b := Els.cast c1re0.symm a0_b_f
   replace h := Option.some.inj h; subst h
   replace hS : St _ m m1 [.box a0_b #[.slice a0_b_a y1.b.length a0_b_c, .int .i64 y1.at_, .int .i64 y1.code, .int .i64 y1.pos] a0_T] := hS
   refine ret_of [.tmp 4] [.slice none 0 0] rfl hK (.tmp rfl .nil) hS ?_
   exact ⟨none, 0, rfl, rfl, (Els.nil _ _), c1re0⟩
  ·
   replace hK := hK.more (t := 12) (v' := .bool false) rfl (by rw [hb2])
   replace h := ite_f (of_decide_eq_false hb2) h
   refine wp_skip ?_
   refine then_n ?_
   refine w_seq ?_
   refine w_seq ?_
   have hlt0 : ∀ bq ∈ blocksOf [.box a0_b #[.slice a0_b_a a0.b.length a0_b_c, .int .i64 a0.at_, .int .i64 a0.code, .int .i64 a0.pos] a0_T], bq < m.w.heap.size := fun bq hbq => hS.ow.lt hbq
   refine D.wp_draw (Gr := D.GO m none) (S := D.SO none (blocksOf [.box a0_b #[.slice a0_b_a a0.b.length a0_b_c, .int .i64 a0.at_, .int .i64 a0.code, .int .i64 a0.pos] a0_T]) m m (fun _ => [.box a0_b #[.slice a0_b_a a0.b.length a0_b_c, .int .i64 a0.at_, .int .i64 a0.code, .int .i64 a0.pos] a0_T]) (fun _ => True)) (N := 0) 11 [] [([(0, none)], 0, 0, false), ([(19, some 0)], 0, 0, false), ([(20, some 0)], 0, 0, false), ([(21, some 0)], 0, 0, false), ([(22, some 0)], 0, 0, false), ([(0, none)], 0, 0, false), ([(24, some 0)], 0, 0, false), ([(25, some 0)], 0, 0, false), ([(26, some 0)], 0, 0, false), ([(23, some 4), (27, some 0)], 0, 0, false), ([(1, none)], 0, 0, false)] hK.size (by kernel_rfl) (by kernel_rfl) (by kernel_rfl) rfl (D.startO hS trivial) ?_
   refine D.on_pure (D.GO_refl _ _) [(0, .pointer (some ⟨a0_b, 0, none⟩))] (.pointer (some ⟨a0_b, 0, none⟩)) (fun ac ww hk => (.cons (hk.1.trans (hK.at_ 0 _ rfl)) (.nil _))) ?_
   refine D.on_pure (D.GO_refl _ _) [(19, .pointer (some ⟨a0_b, 0, none⟩))] (.pointer (some ⟨a0_b, 0, none⟩)) (fun ac ww hk => (.cons (hk.1) (.nil _))) ?_
   refine D.on_pure (D.GO_refl _ _) [(20, .pointer (some ⟨a0_b, 0, none⟩))] (.pointer (some ⟨a0_b, 0, none⟩)) (fun ac ww hk => (.cons (hk.1) (.nil _))) ?_
   refine D.on_det (D.GO_refl _ _) [(21, .pointer (some ⟨a0_b, 0, none⟩))] (.slice a0_b_a a0.b.length a0_b_c) (fun ac ww hk => (.cons (hk.1) (.nil _))) (fun ac ww kk hb hKe Post hp => (fun hS => s_load hKe hS 0 rfl rfl rfl rfl (by kernel_rfl) hp) hb.2.1) ?_
   refine D.on_pure (D.GO_refl _ _) [(22, .slice a0_b_a a0.b.length a0_b_c)] (.int .i64 (a0.b.length : Int)) (fun ac ww hk => (.cons (hk.1) (.nil _))) ?_
   refine D.on_pure (D.GO_refl _ _) [(0, .pointer (some ⟨a0_b, 0, none⟩))] (.pointer (some ⟨a0_b, 0, none⟩)) (fun ac ww hk => (.cons (hk.1.trans (hK.at_ 0 _ rfl)) (.nil _))) ?_
   refine D.on_pure (D.GO_refl _ _) [(24, .pointer (some ⟨a0_b, 0, none⟩))] (.pointer (some ⟨a0_b, 0, none⟩)) (fun ac ww hk => (.cons (hk.1) (.nil _))) ?_
   refine D.on_pure (D.GO_refl _ _) [(25, .pointer (some ⟨a0_b, 0, none⟩))] (.pointer (some ⟨a0_b, 1, none⟩)) (fun ac ww hk => (.cons (hk.1) (.nil _))) ?_
   refine D.on_det (D.GO_refl _ _) [(26, .pointer (some ⟨a0_b, 1, none⟩))] (.int .i64 a0.at_) (fun ac ww hk => (.cons (hk.1) (.nil _))) (fun ac ww kk hb hKe Post hp => (fun hS => s_load hKe hS 0 rfl rfl rfl rfl (by kernel_rfl) hp) hb.2.1) ?_
   refine D.on_pure (D.GO_refl _ _) [(23, .int .i64 (a0.b.length : Int)), (27, .int .i64 a0.at_)] (.int .i64 (IntKind.i64.wrap ((a0.b.length : Int) - a0.at_))) (fun ac ww hk => (.cons (hk.1) (.cons (hk.2.1) (.nil _)))) ?_
   refine D.on_pure (D.GO_refl _ _) [(1, .int .i64 a1)] (.int .i64 a1) (fun ac ww hk => (.cons (hk.1.trans (hK.at_ 1 _ rfl)) (.nil _))) ?_
   refine D.finO ?_
   intro fr2 m2 hm1 l2 hS2 hF2 hE
   replace hS2 : St _ m m2 [.box a0_b #[.slice a0_b_a a0.b.length a0_b_c, .int .i64 a0.at_, .int .i64 a0.code, .int .i64 a0.pos] a0_T] := hS2
   have hK2 := D.kn_ends [(19, .pointer (some ⟨a0_b, 0, none⟩)), (20, .pointer (some ⟨a0_b, 0, none⟩)), (21, .pointer (some ⟨a0_b, 0, none⟩)), (22, .slice a0_b_a a0.b.length a0_b_c), (23, .int .i64 (a0.b.length : Int)), (24, .pointer (some ⟨a0_b, 0, none⟩)), (25, .pointer (some ⟨a0_b, 0, none⟩)), (26, .pointer (some ⟨a0_b, 1, none⟩)), (27, .int .i64 a0.at_), (28, .int .i64 (IntKind.i64.wrap ((a0.b.length : Int) - a0.at_))), (29, .int .i64 a1)] hK hE rfl (by kernel_rfl) (.cons (hE.slots 19) (.cons (hE.slots 20) (.cons (hE.slots 21) (.cons (hE.slots 22) (.cons (hE.slots 23) (.cons (hE.slots 24) (.cons (hE.slots 25) (.cons (hE.slots 26) (.cons (hE.slots 27) (.cons (hE.slots 28) (.cons (hE.slots 29) (.nil _))))))))))))
   replace hK2 : Kn 63 fr2 [(19, .pointer (some ⟨a0_b, 0, none⟩)), (20, .pointer (some ⟨a0_b, 0, none⟩)), (21, .pointer (some ⟨a0_b, 0, none⟩)), (22, .slice a0_b_a a0.b.length a0_b_c), (23, .int .i64 (a0.b.length : Int)), (24, .pointer (some ⟨a0_b, 0, none⟩)), (25, .pointer (some ⟨a0_b, 0, none⟩)), (26, .pointer (some ⟨a0_b, 1, none⟩)), (27, .int .i64 a0.at_), (28, .int .i64 (IntKind.i64.wrap ((a0.b.length : Int) - a0.at_))), (29, .int .i64 a1), (12, .bool false), (11, .int .i64 a1), (10, .bool false), (9, .int .i64 a0.code), (8, .pointer (some ⟨a0_b, 2, none⟩)), (7, .pointer (some ⟨a0_b, 0, none⟩)), (6, .pointer (some ⟨a0_b, 0, none⟩)), (4, .slice none 0 0), (0, .pointer (some ⟨a0_b, 0, none⟩)), (1, .int .i64 a1)] := hK2.only [19, 20, 21, 22, 23, 24, 25, 26, 27, 28, 29, 12, 11, 10, 9, 8, 7, 6, 4, 0, 1]
   clear hE hK; revert hK2; clear hm1 hS hlt0; revert fr2; clear fr; intro fr hK; have hS := hS2; clear hS2
   replace hS : St _ m m2 [.box a0_b #[.slice a0_b_a a0.b.length a0_b_c, .int .i64 a0.at_, .int .i64 a0.code, .int .i64 a0.pos] a0_T] := hS
   refine qp 30 (.bool (decide ((IntKind.i64.wrap ((a0.b.length : Int) - a0.at_)) < a1))) hK fun fr hK => ?_
   refine wpList_nil (then_n ?_)
   refine w_cond hK rfl (fun hb3 => ?_) (fun hb3 => ?_)
   ·
    replace hK := hK.more (t := 30) (v' := .bool true) rfl (by rw [hb3])
    replace h := ite_t (of_decide_eq_true hb3) h
    refine w_seq (w_region ?_)
    refine qp 31 (.pointer (some ⟨a0_b, 0, none⟩)) hK fun fr hK => ?_
    refine qp 32 (.pointer (some ⟨a0_b, 0, none⟩)) hK fun fr hK => ?_
    refine qp 33 (.pointer (some ⟨a0_b, 0, none⟩)) hK fun fr hK => ?_
    refine qp 34 (.pointer (some ⟨a0_b, 0, none⟩)) hK fun fr hK => ?_
    refine qo 35 hK (s_load hK.at_ hS 0 rfl rfl rfl rfl (by kernel_rfl) ?_)
    clear hK fr; intro fr hK
    refine qp 36 (.int .i64 (a0.b.length : Int)) hK fun fr hK => ?_
    replace a0_b_f := Els.mono rep_U8 a0_b_f l2
    obtain ⟨y2, hy2, h⟩ := bind_some h
    replace hS : St _ m m2 [.box a0_b #[.slice a0_b_a a0.b.length a0_b_c, .int .i64 a0.at_, .int .i64 a0.code, .int .i64 a0.pos] a0_T] := hS
    refine qo 37 hK (s_callM (R := [.box a0_b #[.slice a0_b_a a0.b.length a0_b_c, .int .i64 a0.at_, .int .i64 a0.code, .int .i64 a0.pos] a0_T]) (L := []) hK.at_ hS ent50_6 rfl rfl rfl rfl (G.graftref06_Fail_spec a0_b_f hy2 (Ow.left (L := [.box a0_b #[.slice a0_b_a a0.b.length a0_b_c, .int .i64 a0.at_, .int .i64 a0.code, .int .i64 a0.pos] a0_T]) hS.ow)) (by kernel_rfl) ?_)
    clear hK fr hS; rintro _ m3 _ l3 hS ⟨rfl, rfl, c2re0⟩ fr hK
    replace hS : St _ m m3 [.box a0_b #[.slice a0_b_a y2.b.length a0_b_c, .int .i64 y2.at_, .int .i64 y2.code, .int .i64 y2.pos] a0_T] := hS
    refine wpList_nil (then_n ?_)
    refine w_seq (w_region ?_)
    refine qp 4 (.slice none 0 0) hK fun fr hK => ?_
    refine wpList_nil (then_n ?_)
    refine wp_ret ?_
    refine then_r ?_
    replace a0_b_f := Els.mono rep_U8 a0_b_f l3
    have f2 : Els isU8 m3 1 a0_b_a a0_b_c y2.b := Els.cast c2re0.symm a0_b_f
    replace h := Option.some.inj h; subst h
    replace hS : St _ m m3 [.box a0_b #[.slice a0_b_a y2.b.length a0_b_c, .int .i64 y2.at_, .int .i64 y2.code, .int .i64 y2.pos] a0_T] := hS
    refine ret_of [.tmp 4] [.slice none 0 0] rfl hK (.tmp rfl .nil) hS ?_
    exact ⟨none, 0, rfl, rfl, (Els.nil _ _), c2re0⟩
   ·
    replace hK := hK.more (t := 30) (v' := .bool false) rfl (by rw [hb3])
    replace h := ite_f (of_decide_eq_false hb3) h
    refine wp_skip ?_
    refine then_n ?_
    refine w_seq ?_
    replace a0_b_f := Els.mono rep_U8 a0_b_f l2
    have hlt0 : ∀ bq ∈ blocksOf [.box a0_b #[.slice a0_b_a a0.b.length a0_b_c, .int .i64 a0.at_, .int .i64 a0.code, .int .i64 a0.pos] a0_T], bq < m2.w.heap.size := fun bq hbq => hS.ow.lt hbq
    refine D.wp_draw (Gr := D.GO m2 none) (S := D.SO none (blocksOf [.box a0_b #[.slice a0_b_a a0.b.length a0_b_c, .int .i64 a0.at_, .int .i64 a0.code, .int .i64 a0.pos] a0_T]) m m2 (fun _ => [.box a0_b #[.slice a0_b_a a0.b.length a0_b_c, .int .i64 a0.at_, .int .i64 a0.code, .int .i64 a0.pos] a0_T]) (fun _ => True)) (N := 0) 14 [] [([(0, none)], 0, 0, false), ([(38, some 0)], 0, 0, false), ([(39, some 0)], 0, 0, false), ([(40, some 0)], 0, 0, false), ([(0, none)], 0, 0, false), ([(42, some 0)], 0, 0, false), ([(43, some 0)], 0, 0, false), ([(44, some 0)], 0, 0, false), ([(0, none)], 0, 0, false), ([(46, some 0)], 0, 0, false), ([(47, some 0)], 0, 0, false), ([(48, some 0)], 0, 0, false), ([(1, none)], 0, 0, false), ([(49, some 1), (50, some 0)], 0, 0, false)] hK.size (by kernel_rfl) (by kernel_rfl) (by kernel_rfl) rfl (D.startO hS trivial) ?_
    refine D.on_pure (D.GO_refl _ _) [(0, .pointer (some ⟨a0_b, 0, none⟩))] (.pointer (some ⟨a0_b, 0, none⟩)) (fun ac ww hk => (.cons (hk.1.trans (hK.at_ 0 _ rfl)) (.nil _))) ?_
    refine D.on_pure (D.GO_refl _ _) [(38, .pointer (some ⟨a0_b, 0, none⟩))] (.pointer (some ⟨a0_b, 0, none⟩)) (fun ac ww hk => (.cons (hk.1) (.nil _))) ?_
    refine D.on_pure (D.GO_refl _ _) [(39, .pointer (some ⟨a0_b, 0, none⟩))] (.pointer (some ⟨a0_b, 0, none⟩)) (fun ac ww hk => (.cons (hk.1) (.nil _))) ?_
    refine D.on_det (D.GO_refl _ _) [(40, .pointer (some ⟨a0_b, 0, none⟩))] (.slice a0_b_a a0.b.length a0_b_c) (fun ac ww hk => (.cons (hk.1) (.nil _))) (fun ac ww kk hb hKe Post hp => (fun hS => s_load hKe hS 0 rfl rfl rfl rfl (by kernel_rfl) hp) hb.2.1) ?_
    refine D.on_pure (D.GO_refl _ _) [(0, .pointer (some ⟨a0_b, 0, none⟩))] (.pointer (some ⟨a0_b, 0, none⟩)) (fun ac ww hk => (.cons (hk.1.trans (hK.at_ 0 _ rfl)) (.nil _))) ?_
    refine D.on_pure (D.GO_refl _ _) [(42, .pointer (some ⟨a0_b, 0, none⟩))] (.pointer (some ⟨a0_b, 0, none⟩)) (fun ac ww hk => (.cons (hk.1) (.nil _))) ?_
    refine D.on_pure (D.GO_refl _ _) [(43, .pointer (some ⟨a0_b, 0, none⟩))] (.pointer (some ⟨a0_b, 1, none⟩)) (fun ac ww hk => (.cons (hk.1) (.nil _))) ?_
    refine D.on_det (D.GO_refl _ _) [(44, .pointer (some ⟨a0_b, 1, none⟩))] (.int .i64 a0.at_) (fun ac ww hk => (.cons (hk.1) (.nil _))) (fun ac ww kk hb hKe Post hp => (fun hS => s_load hKe hS 0 rfl rfl rfl rfl (by kernel_rfl) hp) hb.2.1) ?_
    refine D.on_pure (D.GO_refl _ _) [(0, .pointer (some ⟨a0_b, 0, none⟩))] (.pointer (some ⟨a0_b, 0, none⟩)) (fun ac ww hk => (.cons (hk.1.trans (hK.at_ 0 _ rfl)) (.nil _))) ?_
    refine D.on_pure (D.GO_refl _ _) [(46, .pointer (some ⟨a0_b, 0, none⟩))] (.pointer (some ⟨a0_b, 0, none⟩)) (fun ac ww hk => (.cons (hk.1) (.nil _))) ?_
    refine D.on_pure (D.GO_refl _ _) [(47, .pointer (some ⟨a0_b, 0, none⟩))] (.pointer (some ⟨a0_b, 1, none⟩)) (fun ac ww hk => (.cons (hk.1) (.nil _))) ?_
    refine D.on_det (D.GO_refl _ _) [(48, .pointer (some ⟨a0_b, 1, none⟩))] (.int .i64 a0.at_) (fun ac ww hk => (.cons (hk.1) (.nil _))) (fun ac ww kk hb hKe Post hp => (fun hS => s_load hKe hS 0 rfl rfl rfl rfl (by kernel_rfl) hp) hb.2.1) ?_
    refine D.on_pure (D.GO_refl _ _) [(1, .int .i64 a1)] (.int .i64 a1) (fun ac ww hk => (.cons (hk.1.trans (hK.at_ 1 _ rfl)) (.nil _))) ?_
    refine D.on_pure (D.GO_refl _ _) [(49, .int .i64 a0.at_), (50, .int .i64 a1)] (.int .i64 (IntKind.i64.wrap (a0.at_ + a1))) (fun ac ww hk => (.cons (hk.1) (.cons (hk.2.1) (.nil _)))) ?_
    refine D.finO ?_
    intro fr2 m4 hm1 l4 hS2 hF2 hE
    replace hS2 : St _ m m4 [.box a0_b #[.slice a0_b_a a0.b.length a0_b_c, .int .i64 a0.at_, .int .i64 a0.code, .int .i64 a0.pos] a0_T] := hS2
    have hK2 := D.kn_ends [(38, .pointer (some ⟨a0_b, 0, none⟩)), (39, .pointer (some ⟨a0_b, 0, none⟩)), (40, .pointer (some ⟨a0_b, 0, none⟩)), (41, .slice a0_b_a a0.b.length a0_b_c), (42, .pointer (some ⟨a0_b, 0, none⟩)), (43, .pointer (some ⟨a0_b, 0, none⟩)), (44, .pointer (some ⟨a0_b, 1, none⟩)), (45, .int .i64 a0.at_), (46, .pointer (some ⟨a0_b, 0, none⟩)), (47, .pointer (some ⟨a0_b, 0, none⟩)), (48, .pointer (some ⟨a0_b, 1, none⟩)), (49, .int .i64 a0.at_), (50, .int .i64 a1), (51, .int .i64 (IntKind.i64.wrap (a0.at_ + a1)))] hK hE rfl (by kernel_rfl) (.cons (hE.slots 38) (.cons (hE.slots 39) (.cons (hE.slots 40) (.cons (hE.slots 41) (.cons (hE.slots 42) (.cons (hE.slots 43) (.cons (hE.slots 44) (.cons (hE.slots 45) (.cons (hE.slots 46) (.cons (hE.slots 47) (.cons (hE.slots 48) (.cons (hE.slots 49) (.cons (hE.slots 50) (.cons (hE.slots 51) (.nil _)))))))))))))))
    replace hK2 : Kn 63 fr2 [(38, .pointer (some ⟨a0_b, 0, none⟩)), (39, .pointer (some ⟨a0_b, 0, none⟩)), (40, .pointer (some ⟨a0_b, 0, none⟩)), (41, .slice a0_b_a a0.b.length a0_b_c), (42, .pointer (some ⟨a0_b, 0, none⟩)), (43, .pointer (some ⟨a0_b, 0, none⟩)), (44, .pointer (some ⟨a0_b, 1, none⟩)), (45, .int .i64 a0.at_), (46, .pointer (some ⟨a0_b, 0, none⟩)), (47, .pointer (some ⟨a0_b, 0, none⟩)), (48, .pointer (some ⟨a0_b, 1, none⟩)), (49, .int .i64 a0.at_), (50, .int .i64 a1), (51, .int .i64 (IntKind.i64.wrap (a0.at_ + a1))), (30, .bool false), (19, .pointer (some ⟨a0_b, 0, none⟩)), (20, .pointer (some ⟨a0_b, 0, none⟩)), (21, .pointer (some ⟨a0_b, 0, none⟩)), (22, .slice a0_b_a a0.b.length a0_b_c), (23, .int .i64 (a0.b.length : Int)), (24, .pointer (some ⟨a0_b, 0, none⟩)), (25, .pointer (some ⟨a0_b, 0, none⟩)), (26, .pointer (some ⟨a0_b, 1, none⟩)), (27, .int .i64 a0.at_), (28, .int .i64 (IntKind.i64.wrap ((a0.b.length : Int) - a0.at_))), (29, .int .i64 a1), (12, .bool false), (11, .int .i64 a1), (10, .bool false), (9, .int .i64 a0.code), (8, .pointer (some ⟨a0_b, 2, none⟩)), (7, .pointer (some ⟨a0_b, 0, none⟩)), (6, .pointer (some ⟨a0_b, 0, none⟩)), (4, .slice none 0 0), (0, .pointer (some ⟨a0_b, 0, none⟩)), (1, .int .i64 a1)] := hK2.only [38, 39, 40, 41, 42, 43, 44, 45, 46, 47, 48, 49, 50, 51, 30, 19, 20, 21, 22, 23, 24, 25, 26, 27, 28, 29, 12, 11, 10, 9, 8, 7, 6, 4, 0, 1]
    clear hE hK; revert hK2; clear hm1 hS hlt0; revert fr2; clear fr; intro fr hK; have hS := hS2; clear hS2
    replace hS : St _ m m4 [.box a0_b #[.slice a0_b_a a0.b.length a0_b_c, .int .i64 a0.at_, .int .i64 a0.code, .int .i64 a0.pos] a0_T] := hS
    replace a0_b_f := Els.mono rep_U8 a0_b_f l4
    obtain ⟨x1, hy3, h⟩ := bind_some h
    refine qo 52 hK (s_slcMid elT22_6 a0_b_f hy3 hK.at_ rfl rfl rfl rfl ?_)
    clear hK fr; intro ad1 cp1 f3 fr hK
    refine qp 5 (.slice ad1 x1.length cp1) hK fun fr hK => ?_
    refine wpList_nil (then_n ?_)
    refine w_seq (w_region ?_)
    refine qp 53 (.pointer (some ⟨a0_b, 0, none⟩)) hK fun fr hK => ?_
    refine qp 54 (.pointer (some ⟨a0_b, 0, none⟩)) hK fun fr hK => ?_
    refine qp 55 (.pointer (some ⟨a0_b, 0, none⟩)) hK fun fr hK => ?_
    refine qp 56 (.pointer (some ⟨a0_b, 1, none⟩)) hK fun fr hK => ?_
    refine qo 57 hK (s_load hK.at_ hS 0 rfl rfl rfl rfl (by kernel_rfl) ?_)
    clear hK fr; intro fr hK
    refine qp 58 (.int .i64 a1) hK fun fr hK => ?_
    refine qp 59 (.int .i64 (IntKind.i64.wrap (a0.at_ + a1))) hK fun fr hK => ?_
    refine qp 60 (.pointer (some ⟨a0_b, 0, none⟩)) hK fun fr hK => ?_
    refine qp 61 (.pointer (some ⟨a0_b, 1, none⟩)) hK fun fr hK => ?_
    refine qo0 hK (s_store hK.at_ 0 hS rfl rfl rfl rfl (by kernel_rfl) (by kernel_rfl) (by kernel_rfl) ?_)
    clear hK fr hS; intro m5 l5 hS fr hK
    replace hS : St _ m m5 [.box a0_b #[.slice a0_b_a a0.b.length a0_b_c, .int .i64 (IntKind.i64.wrap (a0.at_ + a1)), .int .i64 a0.code, .int .i64 a0.pos] a0_T] := hS
    refine wpList_nil (then_n ?_)
    refine w_seq (w_region ?_)
    refine qp 62 (.slice ad1 x1.length cp1) hK fun fr hK => ?_
    refine qp 4 (.slice ad1 x1.length cp1) hK fun fr hK => ?_
    refine wpList_nil (then_n ?_)
    refine wp_ret ?_
    replace a0_b_f := Els.mono rep_U8 a0_b_f l5
    replace f3 := Els.mono rep_U8 f3 l5
    replace h := Option.some.inj h; subst h
    replace hS : St _ m m5 [.box a0_b #[.slice a0_b_a a0.b.length a0_b_c, .int .i64 (IntKind.i64.wrap (a0.at_ + a1)), .int .i64 a0.code, .int .i64 a0.pos] a0_T] := hS
    refine ret_of [.tmp 4] [.slice ad1 x1.length cp1] rfl hK (.tmp rfl .nil) hS ?_
    exact ⟨ad1, cp1, rfl, rfl, f3, rfl⟩
set_option maxRecDepth 100000 in
set_option maxHeartbeats 1000000 in
theorem G.graftref07_command_spec {m : Mem} {a0 : G.graftref06_Reader} {a0_b : Nat} {a0_b_a : Option Addr} {a0_b_c : Nat} {a0_T : TypeId} (a0_b_f : Els isU8 m 1 a0_b_a a0_b_c a0.b) {r : G.Command × G.graftref06_Reader} (h : G.graftref07_command a0 = some r) (hO : Ow m [.box a0_b #[.slice a0_b_a a0.b.length a0_b_c, .int .i64 a0.at_, .int .i64 a0.code, .int .i64 a0.pos] a0_T]) :
  Spec Try.prog 53 #[.pointer (some ⟨a0_b, 0, none⟩)] m [.box a0_b #[.slice a0_b_a a0.b.length a0_b_c, .int .i64 a0.at_, .int .i64 a0.code, .int .i64 a0.pos] a0_T] fun v m' L => ∃ (r0_data_a : Option Addr) (r0_data_c : Nat), L = [.box a0_b #[.slice a0_b_a r.2.b.length a0_b_c, .int .i64 r.2.at_, .int .i64 r.2.code, .int .i64 r.2.pos] a0_T] ∧ v = .agg #[.int .i64 r.1.kind, .int .i64 r.1.to, .int .i64 r.1.from_, .int .i64 r.1.len, .slice r0_data_a r.1.data.length r0_data_c] ∧ Els isU8 m' 1 r0_data_a r0_data_c r.1.data ∧ r.2.b = a0.b := by
 unfold G.graftref07_command at h
 refine enter (args := [_]) 51 Try.func53 rfl rfl (by simp) fun fr hK => ?_
 have hS := St.refl (hO)
 replace hK : Kn 51 fr [(0, .pointer (some ⟨a0_b, 0, none⟩))] := hK
 refine w_seq (w_region ?_)
 refine qo 2 hK (s_alloc (.agg #[.int .i64 0, .int .i64 0, .int .i64 0, .int .i64 0, .slice none 0 0]) hK.at_ hS rfl (by kernel_rfl) ?_)
 clear hK fr hS; intro m1 b1 b1z l1 hS fr hK
 replace hS : St _ m m1 [.box b1 #[.int .i64 0, .int .i64 0, .int .i64 0, .int .i64 0, .slice none 0 0] 50, .box a0_b #[.slice a0_b_a a0.b.length a0_b_c, .int .i64 a0.at_, .int .i64 a0.code, .int .i64 a0.pos] a0_T] := hS
 refine wpList_nil (then_n ?_)
 refine w_seq (w_region ?_)
 refine qp 6 (.pointer (some ⟨a0_b, 0, none⟩)) hK fun fr hK => ?_
 refine qp 7 (.pointer (some ⟨a0_b, 0, none⟩)) hK fun fr hK => ?_
 refine qp 8 (.pointer (some ⟨a0_b, 1, none⟩)) hK fun fr hK => ?_
 refine qo 9 hK (s_load hK.at_ hS 1 rfl rfl rfl rfl (by kernel_rfl) ?_)
 clear hK fr; intro fr hK
 refine qp 3 (.int .i64 a0.at_) hK fun fr hK => ?_
 refine wpList_nil (then_n ?_)
 refine w_seq (w_region ?_)
 refine qp 10 (.pointer (some ⟨a0_b, 0, none⟩)) hK fun fr hK => ?_
 replace a0_b_f := Els.mono rep_U8 a0_b_f l1
 obtain ⟨y1, hy1, h⟩ := bind_some h
 replace hS := hS.front 1 rfl
 replace hS : St _ m m1 [.box a0_b #[.slice a0_b_a a0.b.length a0_b_c, .int .i64 a0.at_, .int .i64 a0.code, .int .i64 a0.pos] a0_T, .box b1 #[.int .i64 0, .int .i64 0, .int .i64 0, .int .i64 0, .slice none 0 0] 50] := hS
 refine qo 11 hK (s_callM (R := [.box a0_b #[.slice a0_b_a a0.b.length a0_b_c, .int .i64 a0.at_, .int .i64 a0.code, .int .i64 a0.pos] a0_T]) (L := [.box b1 #[.int .i64 0, .int .i64 0, .int .i64 0, .int .i64 0, .slice none 0 0] 50]) hK.at_ hS ent49_6 rfl rfl rfl rfl (G.graftref06_Uint_spec a0_b_f hy1 (Ow.left (L := [.box a0_b #[.slice a0_b_a a0.b.length a0_b_c, .int .i64 a0.at_, .int .i64 a0.code, .int .i64 a0.pos] a0_T]) hS.ow)) (by kernel_rfl) ?_)
 clear hK fr hS; rintro _ m2 _ l2 hS ⟨rfl, rfl, c1re0⟩ fr hK
 refine qp 12 (.int .i64 (IntKind.i64.wrap y1.1)) hK fun fr hK => ?_
 refine qp 13 (.agg #[.int .i64 (IntKind.i64.wrap y1.1), .int .i64 0, .int .i64 0, .int .i64 0, .slice none 0 0]) hK fun fr hK => ?_
 refine qo 4 hK (s_alloc (.agg #[.int .i64 0, .int .i64 0, .int .i64 0, .int .i64 0, .slice none 0 0]) hK.at_ hS rfl (by kernel_rfl) ?_)
 clear hK fr hS; intro m3 b2 b2z l3 hS fr hK
 refine qo0 hK (s_storeAll hK.at_ 0 hS rfl rfl rfl rfl (by kernel_rfl) (by kernel_rfl) (by kernel_rfl) ?_)
 clear hK fr hS; intro m4 l4 hS fr hK
 replace hS : St _ m m4 [.box b2 #[.int .i64 (IntKind.i64.wrap y1.1), .int .i64 0, .int .i64 0, .int .i64 0, .slice none 0 0] 50, .box a0_b #[.slice a0_b_a y1.2.b.length a0_b_c, .int .i64 y1.2.at_, .int .i64 y1.2.code, .int .i64 y1.2.pos] a0_T, .box b1 #[.int .i64 0, .int .i64 0, .int .i64 0, .int .i64 0, .slice none 0 0] 50] := hS
 refine wpList_nil (then_n ?_)
 refine w_seq ?_
 refine w_seq ?_
 obtain ⟨v1, hv1, h⟩ := bind_some h
 refine w_join (fun fr ww => ∃ m5 : Mem, m5.w = ww ∧ Kn 51 fr [(0, .pointer (some ⟨a0_b, 0, none⟩)), (2, .pointer (some ⟨b1, 0, none⟩)), (3, .int .i64 a0.at_), (4, .pointer (some ⟨b2, 0, none⟩)), (28, .bool v1)] ∧ Le m4 m5 ∧ St (blocksOf [.box a0_b #[.slice a0_b_a a0.b.length a0_b_c, .int .i64 a0.at_, .int .i64 a0.code, .int .i64 a0.pos] a0_T]) m m5 [.box b2 #[.int .i64 (IntKind.i64.wrap y1.1), .int .i64 0, .int .i64 0, .int .i64 0, .slice none 0 0] 50, .box a0_b #[.slice a0_b_a y1.2.b.length a0_b_c, .int .i64 y1.2.at_, .int .i64 y1.2.code, .int .i64 y1.2.pos] a0_T, .box b1 #[.int .i64 0, .int .i64 0, .int .i64 0, .int .i64 0, .slice none 0 0] 50]) ?_ ?_
 ·
  clear hK hS fr hv1
  rintro fr _ ⟨m5, rfl, hK, l5, hS⟩
  refine then_n ?_
  obtain ⟨v2, hv2, h⟩ := bind_some h
  refine w_join (fun fr ww => ∃ m6 : Mem, m6.w = ww ∧ Kn 51 fr [(0, .pointer (some ⟨a0_b, 0, none⟩)), (2, .pointer (some ⟨b1, 0, none⟩)), (4, .pointer (some ⟨b2, 0, none⟩))] ∧ Le m5 m6 ∧ St (blocksOf [.box a0_b #[.slice a0_b_a a0.b.length a0_b_c, .int .i64 a0.at_, .int .i64 a0.code, .int .i64 a0.pos] a0_T]) m m6 [.box b2 #[.int .i64 (IntKind.i64.wrap y1.1), .int .i64 0, .int .i64 0, .int .i64 0, .slice none 0 0] 50, .box a0_b #[.slice a0_b_a (((v2).b).length) a0_b_c, .int .i64 ((v2).at_), .int .i64 ((v2).code), .int .i64 ((v2).pos)] a0_T, .box b1 #[.int .i64 0, .int .i64 0, .int .i64 0, .int .i64 0, .slice none 0 0] 50] ∧ (v2).b = a0.b) ?_ ?_
  ·
   clear hK hS fr hv2
   rintro fr _ ⟨m6, rfl, hK, l6, hS, he1⟩
   refine then_n ?_
   refine w_seq (w_region ?_)
   refine qp 32 (.pointer (some ⟨a0_b, 0, none⟩)) hK fun fr hK => ?_
   replace a0_b_f := Els.mono rep_U8 a0_b_f (l2.trans (l3.trans (l4.trans (l5.trans l6))))
   have f2 : Els isU8 m6 1 a0_b_a a0_b_c ((v2).b) := Els.cast he1.symm a0_b_f
   obtain ⟨y2, hy2, h⟩ := bind_some h
   replace hS := hS.front 1 rfl
   replace hS : St _ m m6 [.box a0_b #[.slice a0_b_a (((v2).b).length) a0_b_c, .int .i64 ((v2).at_), .int .i64 ((v2).code), .int .i64 ((v2).pos)] a0_T, .box b2 #[.int .i64 (IntKind.i64.wrap y1.1), .int .i64 0, .int .i64 0, .int .i64 0, .slice none 0 0] 50, .box b1 #[.int .i64 0, .int .i64 0, .int .i64 0, .int .i64 0, .slice none 0 0] 50] := hS
   refine qo 33 hK (s_callM (R := [.box a0_b #[.slice a0_b_a (((v2).b).length) a0_b_c, .int .i64 ((v2).at_), .int .i64 ((v2).code), .int .i64 ((v2).pos)] a0_T]) (L := [.box b2 #[.int .i64 (IntKind.i64.wrap y1.1), .int .i64 0, .int .i64 0, .int .i64 0, .slice none 0 0] 50, .box b1 #[.int .i64 0, .int .i64 0, .int .i64 0, .int .i64 0, .slice none 0 0] 50]) hK.at_ hS ent51_6 rfl rfl rfl rfl (G.graftref06_Length_spec f2 hy2 (Ow.left (L := [.box a0_b #[.slice a0_b_a (((v2).b).length) a0_b_c, .int .i64 ((v2).at_), .int .i64 ((v2).code), .int .i64 ((v2).pos)] a0_T]) hS.ow)) (by kernel_rfl) ?_)
   clear hK fr hS; rintro _ m7 _ l7 hS ⟨rfl, rfl, c2re0⟩ fr hK
   replace hS : St _ m m7 [.box a0_b #[.slice a0_b_a y2.2.b.length a0_b_c, .int .i64 y2.2.at_, .int .i64 y2.2.code, .int .i64 y2.2.pos] a0_T, .box b2 #[.int .i64 (IntKind.i64.wrap y1.1), .int .i64 0, .int .i64 0, .int .i64 0, .slice none 0 0] 50, .box b1 #[.int .i64 0, .int .i64 0, .int .i64 0, .int .i64 0, .slice none 0 0] 50] := hS
   refine qp 34 (.pointer (some ⟨b2, 1, none⟩)) hK fun fr hK => ?_
   refine qo0 hK (s_store hK.at_ 1 hS rfl rfl rfl rfl (by kernel_rfl) (by kernel_rfl) (by kernel_rfl) ?_)
   clear hK fr hS; intro m8 l8 hS fr hK
   replace hS : St _ m m8 [.box b2 #[.int .i64 (IntKind.i64.wrap y1.1), .int .i64 y2.1, .int .i64 0, .int .i64 0, .slice none 0 0] 50, .box a0_b #[.slice a0_b_a y2.2.b.length a0_b_c, .int .i64 y2.2.at_, .int .i64 y2.2.code, .int .i64 y2.2.pos] a0_T, .box b1 #[.int .i64 0, .int .i64 0, .int .i64 0, .int .i64 0, .slice none 0 0] 50] := hS
   refine wpList_nil (then_n ?_)
   refine w_seq ?_
   refine w_seq (w_region ?_)
   refine qp 35 (.pointer (some ⟨b2, 0, none⟩)) hK fun fr hK => ?_
   refine qo 36 hK (s_load hK.at_ hS 0 rfl rfl rfl rfl (by kernel_rfl) ?_)
   clear hK fr; intro fr hK
   refine qp 37 (.bool ((IntKind.i64.wrap y1.1) == 1)) hK fun fr hK => ?_
   refine wpList_nil (then_n ?_)
   refine w_cond hK rfl (fun hb1 => ?_) (fun hb1 => ?_)
   ·
    replace hK := hK.more (t := 37) (v' := .bool true) rfl (by rw [hb1])
    replace h := ite_t (eq_of_beq hb1) h
    refine w_seq (w_region ?_)
    refine qp 38 (.pointer (some ⟨a0_b, 0, none⟩)) hK fun fr hK => ?_
    replace f2 := Els.mono rep_U8 f2 (l7.trans l8)
    have f3 : Els isU8 m8 1 a0_b_a a0_b_c y2.2.b := Els.cast c2re0.symm f2
    obtain ⟨y3, hy3, h⟩ := bind_some h
    replace hS := hS.front 1 rfl
    replace hS : St _ m m8 [.box a0_b #[.slice a0_b_a y2.2.b.length a0_b_c, .int .i64 y2.2.at_, .int .i64 y2.2.code, .int .i64 y2.2.pos] a0_T, .box b2 #[.int .i64 (IntKind.i64.wrap y1.1), .int .i64 y2.1, .int .i64 0, .int .i64 0, .slice none 0 0] 50, .box b1 #[.int .i64 0, .int .i64 0, .int .i64 0, .int .i64 0, .slice none 0 0] 50] := hS
    refine qo 39 hK (s_callM (R := [.box a0_b #[.slice a0_b_a y2.2.b.length a0_b_c, .int .i64 y2.2.at_, .int .i64 y2.2.code, .int .i64 y2.2.pos] a0_T]) (L := [.box b2 #[.int .i64 (IntKind.i64.wrap y1.1), .int .i64 y2.1, .int .i64 0, .int .i64 0, .slice none 0 0] 50, .box b1 #[.int .i64 0, .int .i64 0, .int .i64 0, .int .i64 0, .slice none 0 0] 50]) hK.at_ hS ent51_6 rfl rfl rfl rfl (G.graftref06_Length_spec f3 hy3 (Ow.left (L := [.box a0_b #[.slice a0_b_a y2.2.b.length a0_b_c, .int .i64 y2.2.at_, .int .i64 y2.2.code, .int .i64 y2.2.pos] a0_T]) hS.ow)) (by kernel_rfl) ?_)
    clear hK fr hS; rintro _ m9 _ l9 hS ⟨rfl, rfl, c3re0⟩ fr hK
    replace hS : St _ m m9 [.box a0_b #[.slice a0_b_a y3.2.b.length a0_b_c, .int .i64 y3.2.at_, .int .i64 y3.2.code, .int .i64 y3.2.pos] a0_T, .box b2 #[.int .i64 (IntKind.i64.wrap y1.1), .int .i64 y2.1, .int .i64 0, .int .i64 0, .slice none 0 0] 50, .box b1 #[.int .i64 0, .int .i64 0, .int .i64 0, .int .i64 0, .slice none 0 0] 50] := hS
    refine qp 40 (.pointer (some ⟨b2, 2, none⟩)) hK fun fr hK => ?_
    refine qo0 hK (s_store hK.at_ 1 hS rfl rfl rfl rfl (by kernel_rfl) (by kernel_rfl) (by kernel_rfl) ?_)
    clear hK fr hS; intro m10 l10 hS fr hK
    replace hS : St _ m m10 [.box b2 #[.int .i64 (IntKind.i64.wrap y1.1), .int .i64 y2.1, .int .i64 y3.1, .int .i64 0, .slice none 0 0] 50, .box a0_b #[.slice a0_b_a y3.2.b.length a0_b_c, .int .i64 y3.2.at_, .int .i64 y3.2.code, .int .i64 y3.2.pos] a0_T, .box b1 #[.int .i64 0, .int .i64 0, .int .i64 0, .int .i64 0, .slice none 0 0] 50] := hS
    refine wpList_nil (then_n ?_)
    refine w_region ?_
    refine qp 41 (.pointer (some ⟨a0_b, 0, none⟩)) hK fun fr hK => ?_
    replace f3 := Els.mono rep_U8 f3 (l9.trans l10)
    have f4 : Els isU8 m10 1 a0_b_a a0_b_c y3.2.b := Els.cast c3re0.symm f3
    obtain ⟨y4, hy4, h⟩ := bind_some h
    replace hS := hS.front 1 rfl
    replace hS : St _ m m10 [.box a0_b #[.slice a0_b_a y3.2.b.length a0_b_c, .int .i64 y3.2.at_, .int .i64 y3.2.code, .int .i64 y3.2.pos] a0_T, .box b2 #[.int .i64 (IntKind.i64.wrap y1.1), .int .i64 y2.1, .int .i64 y3.1, .int .i64 0, .slice none 0 0] 50, .box b1 #[.int .i64 0, .int .i64 0, .int .i64 0, .int .i64 0, .slice none 0 0] 50] := hS
    refine qo 42 hK (s_callM (R := [.box a0_b #[.slice a0_b_a y3.2.b.length a0_b_c, .int .i64 y3.2.at_, .int .i64 y3.2.code, .int .i64 y3.2.pos] a0_T]) (L := [.box b2 #[.int .i64 (IntKind.i64.wrap y1.1), .int .i64 y2.1, .int .i64 y3.1, .int .i64 0, .slice none 0 0] 50, .box b1 #[.int .i64 0, .int .i64 0, .int .i64 0, .int .i64 0, .slice none 0 0] 50]) hK.at_ hS ent51_6 rfl rfl rfl rfl (G.graftref06_Length_spec f4 hy4 (Ow.left (L := [.box a0_b #[.slice a0_b_a y3.2.b.length a0_b_c, .int .i64 y3.2.at_, .int .i64 y3.2.code, .int .i64 y3.2.pos] a0_T]) hS.ow)) (by kernel_rfl) ?_)
    clear hK fr hS; rintro _ m11 _ l11 hS ⟨rfl, rfl, c4re0⟩ fr hK
    replace hS : St _ m m11 [.box a0_b #[.slice a0_b_a y4.2.b.length a0_b_c, .int .i64 y4.2.at_, .int .i64 y4.2.code, .int .i64 y4.2.pos] a0_T, .box b2 #[.int .i64 (IntKind.i64.wrap y1.1), .int .i64 y2.1, .int .i64 y3.1, .int .i64 0, .slice none 0 0] 50, .box b1 #[.int .i64 0, .int .i64 0, .int .i64 0, .int .i64 0, .slice none 0 0] 50] := hS
    refine qp 43 (.pointer (some ⟨b2, 3, none⟩)) hK fun fr hK => ?_
    refine qo0 hK (s_store hK.at_ 1 hS rfl rfl rfl rfl (by kernel_rfl) (by kernel_rfl) (by kernel_rfl) ?_)
    clear hK fr hS; intro m12 l12 hS fr hK
    replace hS : St _ m m12 [.box b2 #[.int .i64 (IntKind.i64.wrap y1.1), .int .i64 y2.1, .int .i64 y3.1, .int .i64 y4.1, .slice none 0 0] 50, .box a0_b #[.slice a0_b_a y4.2.b.length a0_b_c, .int .i64 y4.2.at_, .int .i64 y4.2.code, .int .i64 y4.2.pos] a0_T, .box b1 #[.int .i64 0, .int .i64 0, .int .i64 0, .int .i64 0, .slice none 0 0] 50] := hS
    refine wpList_nil (then_n ?_)
    refine w_seq (w_region ?_)
    refine qo 50 hK (s_loadAll hK.at_ hS 0 rfl rfl rfl (by kernel_rfl) ?_)
    clear hK fr; intro fr hK
    refine qo0 hK (s_storeAll hK.at_ 2 hS rfl rfl rfl rfl (by kernel_rfl) (by kernel_rfl) (by kernel_rfl) ?_)
    clear hK fr hS; intro m13 l13 hS fr hK
    replace hS : St _ m m13 [.box b1 #[.int .i64 (IntKind.i64.wrap y1.1), .int .i64 y2.1, .int .i64 y3.1, .int .i64 y4.1, .slice none 0 0] 50, .box b2 #[.int .i64 (IntKind.i64.wrap y1.1), .int .i64 y2.1, .int .i64 y3.1, .int .i64 y4.1, .slice none 0 0] 50, .box a0_b #[.slice a0_b_a y4.2.b.length a0_b_c, .int .i64 y4.2.at_, .int .i64 y4.2.code, .int .i64 y4.2.pos] a0_T] := hS
    refine wpList_nil (then_n ?_)
    refine wp_ret ?_
    replace f4 := Els.mono rep_U8 f4 (l11.trans (l12.trans l13))
    have f5 : Els isU8 m13 1 a0_b_a a0_b_c y4.2.b := Els.cast c4re0.symm f4
    replace h := Option.some.inj h; subst h
    replace hS := hS.front 2 rfl
    replace hS : St _ m m13 [.box a0_b #[.slice a0_b_a y4.2.b.length a0_b_c, .int .i64 y4.2.at_, .int .i64 y4.2.code, .int .i64 y4.2.pos] a0_T, .box b1 #[.int .i64 (IntKind.i64.wrap y1.1), .int .i64 y2.1, .int .i64 y3.1, .int .i64 y4.1, .slice none 0 0] 50, .box b2 #[.int .i64 (IntKind.i64.wrap y1.1), .int .i64 y2.1, .int .i64 y3.1, .int .i64 y4.1, .slice none 0 0] 50] := hS
    refine ret_of [.cell 2 50] [.agg #[.int .i64 (IntKind.i64.wrap y1.1), .int .i64 y2.1, .int .i64 y3.1, .int .i64 y4.1, .slice none 0 0]] rfl hK (ResL.box hS 1 rfl rfl (by kernel_rfl) .nil) (St.keep (L := [.box a0_b #[.slice a0_b_a y4.2.b.length a0_b_c, .int .i64 y4.2.at_, .int .i64 y4.2.code, .int .i64 y4.2.pos] a0_T]) (R := [.box b1 #[.int .i64 (IntKind.i64.wrap y1.1), .int .i64 y2.1, .int .i64 y3.1, .int .i64 y4.1, .slice none 0 0] 50, .box b2 #[.int .i64 (IntKind.i64.wrap y1.1), .int .i64 y2.1, .int .i64 y3.1, .int .i64 y4.1, .slice none 0 0] 50]) hS) ?_
    exact ⟨none, 0, rfl, rfl, (Els.nil _ _), (c4re0.trans (c3re0.trans (c2re0.trans he1)))⟩
   ·
    replace hK := hK.more (t := 37) (v' := .bool false) rfl (by rw [hb1])
    replace h := ite_f (ne_of_beq_false hb1) h
    refine w_seq (w_region ?_)
    refine qp 44 (.pointer (some ⟨a0_b, 0, none⟩)) hK fun fr hK => ?_
    replace f2 := Els.mono rep_U8 f2 (l7.trans l8)
    have f3 : Els isU8 m8 1 a0_b_a a0_b_c y2.2.b := Els.cast c2re0.symm f2
    obtain ⟨y5, hy5, h⟩ := bind_some h
    replace hS := hS.front 1 rfl
    replace hS : St _ m m8 [.box a0_b #[.slice a0_b_a y2.2.b.length a0_b_c, .int .i64 y2.2.at_, .int .i64 y2.2.code, .int .i64 y2.2.pos] a0_T, .box b2 #[.int .i64 (IntKind.i64.wrap y1.1), .int .i64 y2.1, .int .i64 0, .int .i64 0, .slice none 0 0] 50, .box b1 #[.int .i64 0, .int .i64 0, .int .i64 0, .int .i64 0, .slice none 0 0] 50] := hS
    refine qo 45 hK (s_callM (R := [.box a0_b #[.slice a0_b_a y2.2.b.length a0_b_c, .int .i64 y2.2.at_, .int .i64 y2.2.code, .int .i64 y2.2.pos] a0_T]) (L := [.box b2 #[.int .i64 (IntKind.i64.wrap y1.1), .int .i64 y2.1, .int .i64 0, .int .i64 0, .slice none 0 0] 50, .box b1 #[.int .i64 0, .int .i64 0, .int .i64 0, .int .i64 0, .slice none 0 0] 50]) hK.at_ hS ent51_6 rfl rfl rfl rfl (G.graftref06_Length_spec f3 hy5 (Ow.left (L := [.box a0_b #[.slice a0_b_a y2.2.b.length a0_b_c, .int .i64 y2.2.at_, .int .i64 y2.2.code, .int .i64 y2.2.pos] a0_T]) hS.ow)) (by kernel_rfl) ?_)
    clear hK fr hS; rintro _ m14 _ l14 hS ⟨rfl, rfl, c5re0⟩ fr hK
    replace hS : St _ m m14 [.box a0_b #[.slice a0_b_a y5.2.b.length a0_b_c, .int .i64 y5.2.at_, .int .i64 y5.2.code, .int .i64 y5.2.pos] a0_T, .box b2 #[.int .i64 (IntKind.i64.wrap y1.1), .int .i64 y2.1, .int .i64 0, .int .i64 0, .slice none 0 0] 50, .box b1 #[.int .i64 0, .int .i64 0, .int .i64 0, .int .i64 0, .slice none 0 0] 50] := hS
    refine qp 5 (.int .i64 y5.1) hK fun fr hK => ?_
    refine wpList_nil (then_n ?_)
    refine w_region ?_
    refine qp 46 (.pointer (some ⟨a0_b, 0, none⟩)) hK fun fr hK => ?_
    refine qp 47 (.int .i64 y5.1) hK fun fr hK => ?_
    replace f3 := Els.mono rep_U8 f3 l14
    have f6 : Els isU8 m14 1 a0_b_a a0_b_c y5.2.b := Els.cast c5re0.symm f3
    obtain ⟨y6, hy6, h⟩ := bind_some h
    replace hS : St _ m m14 [.box a0_b #[.slice a0_b_a y5.2.b.length a0_b_c, .int .i64 y5.2.at_, .int .i64 y5.2.code, .int .i64 y5.2.pos] a0_T, .box b2 #[.int .i64 (IntKind.i64.wrap y1.1), .int .i64 y2.1, .int .i64 0, .int .i64 0, .slice none 0 0] 50, .box b1 #[.int .i64 0, .int .i64 0, .int .i64 0, .int .i64 0, .slice none 0 0] 50] := hS
    refine qo 48 hK (s_callM (R := [.box a0_b #[.slice a0_b_a y5.2.b.length a0_b_c, .int .i64 y5.2.at_, .int .i64 y5.2.code, .int .i64 y5.2.pos] a0_T]) (L := [.box b2 #[.int .i64 (IntKind.i64.wrap y1.1), .int .i64 y2.1, .int .i64 0, .int .i64 0, .slice none 0 0] 50, .box b1 #[.int .i64 0, .int .i64 0, .int .i64 0, .int .i64 0, .slice none 0 0] 50]) hK.at_ hS ent52_6 rfl rfl rfl rfl (G.graftref06_Bytes_spec f6 hy6 (Ow.left (L := [.box a0_b #[.slice a0_b_a y5.2.b.length a0_b_c, .int .i64 y5.2.at_, .int .i64 y5.2.code, .int .i64 y5.2.pos] a0_T]) hS.ow)) (by kernel_rfl) ?_)
    clear hK fr hS; rintro _ m15 _ l15 hS ⟨c6r0_a, c6r0_c, rfl, rfl, c6r0_f, c6re0⟩ fr hK
    replace hS : St _ m m15 [.box a0_b #[.slice a0_b_a y6.2.b.length a0_b_c, .int .i64 y6.2.at_, .int .i64 y6.2.code, .int .i64 y6.2.pos] a0_T, .box b2 #[.int .i64 (IntKind.i64.wrap y1.1), .int .i64 y2.1, .int .i64 0, .int .i64 0, .slice none 0 0] 50, .box b1 #[.int .i64 0, .int .i64 0, .int .i64 0, .int .i64 0, .slice none 0 0] 50] := hS
    refine qp 49 (.pointer (some ⟨b2, 4, none⟩)) hK fun fr hK => ?_
    refine qo0 hK (s_store hK.at_ 1 hS rfl rfl rfl rfl (by kernel_rfl) (by kernel_rfl) (by kernel_rfl) ?_)
    clear hK fr hS; intro m16 l16 hS fr hK
    replace hS : St _ m m16 [.box b2 #[.int .i64 (IntKind.i64.wrap y1.1), .int .i64 y2.1, .int .i64 0, .int .i64 0, .slice c6r0_a y6.1.length c6r0_c] 50, .box a0_b #[.slice a0_b_a y6.2.b.length a0_b_c, .int .i64 y6.2.at_, .int .i64 y6.2.code, .int .i64 y6.2.pos] a0_T, .box b1 #[.int .i64 0, .int .i64 0, .int .i64 0, .int .i64 0, .slice none 0 0] 50] := hS
    refine wpList_nil (then_n ?_)
    refine w_seq (w_region ?_)
    refine qo 50 hK (s_loadAll hK.at_ hS 0 rfl rfl rfl (by kernel_rfl) ?_)
    clear hK fr; intro fr hK
    refine qo0 hK (s_storeAll hK.at_ 2 hS rfl rfl rfl rfl (by kernel_rfl) (by kernel_rfl) (by kernel_rfl) ?_)
    clear hK fr hS; intro m17 l17 hS fr hK
    replace hS : St _ m m17 [.box b1 #[.int .i64 (IntKind.i64.wrap y1.1), .int .i64 y2.1, .int .i64 0, .int .i64 0, .slice c6r0_a y6.1.length c6r0_c] 50, .box b2 #[.int .i64 (IntKind.i64.wrap y1.1), .int .i64 y2.1, .int .i64 0, .int .i64 0, .slice c6r0_a y6.1.length c6r0_c] 50, .box a0_b #[.slice a0_b_a y6.2.b.length a0_b_c, .int .i64 y6.2.at_, .int .i64 y6.2.code, .int .i64 y6.2.pos] a0_T] := hS
    refine wpList_nil (then_n ?_)
    refine wp_ret ?_
    replace f6 := Els.mono rep_U8 f6 (l15.trans (l16.trans l17))
    have f7 : Els isU8 m17 1 a0_b_a a0_b_c y6.2.b := Els.cast c6re0.symm f6
    replace c6r0_f := Els.mono rep_U8 c6r0_f (l16.trans l17)
    replace h := Option.some.inj h; subst h
    replace hS := hS.front 2 rfl
    replace hS : St _ m m17 [.box a0_b #[.slice a0_b_a y6.2.b.length a0_b_c, .int .i64 y6.2.at_, .int .i64 y6.2.code, .int .i64 y6.2.pos] a0_T, .box b1 #[.int .i64 (IntKind.i64.wrap y1.1), .int .i64 y2.1, .int .i64 0, .int .i64 0, .slice c6r0_a y6.1.length c6r0_c] 50, .box b2 #[.int .i64 (IntKind.i64.wrap y1.1), .int .i64 y2.1, .int .i64 0, .int .i64 0, .slice c6r0_a y6.1.length c6r0_c] 50] := hS
    refine ret_of [.cell 2 50] [.agg #[.int .i64 (IntKind.i64.wrap y1.1), .int .i64 y2.1, .int .i64 0, .int .i64 0, .slice c6r0_a y6.1.length c6r0_c]] rfl hK (ResL.box hS 1 rfl rfl (by kernel_rfl) .nil) (St.keep (L := [.box a0_b #[.slice a0_b_a y6.2.b.length a0_b_c, .int .i64 y6.2.at_, .int .i64 y6.2.code, .int .i64 y6.2.pos] a0_T]) (R := [.box b1 #[.int .i64 (IntKind.i64.wrap y1.1), .int .i64 y2.1, .int .i64 0, .int .i64 0, .slice c6r0_a y6.1.length c6r0_c] 50, .box b2 #[.int .i64 (IntKind.i64.wrap y1.1), .int .i64 y2.1, .int .i64 0, .int .i64 0, .slice c6r0_a y6.1.length c6r0_c] 50]) hS) ?_
    exact ⟨c6r0_a, c6r0_c, rfl, rfl, c6r0_f, (c6re0.trans (c5re0.trans (c2re0.trans he1)))⟩
  ·
   replace h := hv2; clear hv2
   refine w_cond hK rfl (fun hb2 => ?_) (fun hb2 => ?_)
   ·
    replace hK := hK.more (t := 28) (v' := .bool true) rfl (by rw [hb2])
    replace h := ite_t (hb2) h
    refine w_region ?_
    refine qp 29 (.pointer (some ⟨a0_b, 0, none⟩)) hK fun fr hK => ?_
    refine qp 30 (.int .i64 a0.at_) hK fun fr hK => ?_
    replace a0_b_f := Els.mono rep_U8 a0_b_f (l2.trans (l3.trans (l4.trans l5)))
    have f1 : Els isU8 m5 1 a0_b_a a0_b_c y1.2.b := Els.cast c1re0.symm a0_b_f
    obtain ⟨y7, hy7, h⟩ := bind_some h
    replace hS := hS.front 1 rfl
    replace hS : St _ m m5 [.box a0_b #[.slice a0_b_a y1.2.b.length a0_b_c, .int .i64 y1.2.at_, .int .i64 y1.2.code, .int .i64 y1.2.pos] a0_T, .box b2 #[.int .i64 (IntKind.i64.wrap y1.1), .int .i64 0, .int .i64 0, .int .i64 0, .slice none 0 0] 50, .box b1 #[.int .i64 0, .int .i64 0, .int .i64 0, .int .i64 0, .slice none 0 0] 50] := hS
    refine qo 31 hK (s_callM (R := [.box a0_b #[.slice a0_b_a y1.2.b.length a0_b_c, .int .i64 y1.2.at_, .int .i64 y1.2.code, .int .i64 y1.2.pos] a0_T]) (L := [.box b2 #[.int .i64 (IntKind.i64.wrap y1.1), .int .i64 0, .int .i64 0, .int .i64 0, .slice none 0 0] 50, .box b1 #[.int .i64 0, .int .i64 0, .int .i64 0, .int .i64 0, .slice none 0 0] 50]) hK.at_ hS ent50_6 rfl rfl rfl rfl (G.graftref06_Fail_spec f1 hy7 (Ow.left (L := [.box a0_b #[.slice a0_b_a y1.2.b.length a0_b_c, .int .i64 y1.2.at_, .int .i64 y1.2.code, .int .i64 y1.2.pos] a0_T]) hS.ow)) (by kernel_rfl) ?_)
    clear hK fr hS; rintro _ m18 _ l18 hS ⟨rfl, rfl, c7re0⟩ fr hK
    replace hS : St _ m m18 [.box a0_b #[.slice a0_b_a y7.b.length a0_b_c, .int .i64 y7.at_, .int .i64 y7.code, .int .i64 y7.pos] a0_T, .box b2 #[.int .i64 (IntKind.i64.wrap y1.1), .int .i64 0, .int .i64 0, .int .i64 0, .slice none 0 0] 50, .box b1 #[.int .i64 0, .int .i64 0, .int .i64 0, .int .i64 0, .slice none 0 0] 50] := hS
    refine wpList_nil (then_n ?_)
    replace f1 := Els.mono rep_U8 f1 l18
    have f8 : Els isU8 m18 1 a0_b_a a0_b_c y7.b := Els.cast c7re0.symm f1
    replace hS := hS.front 2 rfl
    replace hS := hS.front 1 rfl
    replace hS := hS.front 2 rfl
    replace hS : St _ m m18 [.box b2 #[.int .i64 (IntKind.i64.wrap y1.1), .int .i64 0, .int .i64 0, .int .i64 0, .slice none 0 0] 50, .box a0_b #[.slice a0_b_a y7.b.length a0_b_c, .int .i64 y7.at_, .int .i64 y7.code, .int .i64 y7.pos] a0_T, .box b1 #[.int .i64 0, .int .i64 0, .int .i64 0, .int .i64 0, .slice none 0 0] 50] := hS
    replace h := Option.some.inj h; subst h
    exact ⟨m18, rfl, hK.only [0, 2, 4], l18, hS, (c7re0.trans c1re0)⟩
   ·
    replace hK := hK.more (t := 28) (v' := .bool false) rfl (by rw [hb2])
    replace h := ite_f (ne_true_of_eq_false hb2) h
    refine wp_skip ?_
    refine then_n ?_
    replace a0_b_f := Els.mono rep_U8 a0_b_f (l2.trans (l3.trans (l4.trans l5)))
    have f1 : Els isU8 m5 1 a0_b_a a0_b_c y1.2.b := Els.cast c1re0.symm a0_b_f
    replace hS := hS.front 2 rfl
    replace hS := hS.front 2 rfl
    replace hS := hS.front 2 rfl
    replace hS : St _ m m5 [.box b2 #[.int .i64 (IntKind.i64.wrap y1.1), .int .i64 0, .int .i64 0, .int .i64 0, .slice none 0 0] 50, .box a0_b #[.slice a0_b_a y1.2.b.length a0_b_c, .int .i64 y1.2.at_, .int .i64 y1.2.code, .int .i64 y1.2.pos] a0_T, .box b1 #[.int .i64 0, .int .i64 0, .int .i64 0, .int .i64 0, .slice none 0 0] 50] := hS
    replace h := Option.some.inj h; subst h
    exact ⟨m5, rfl, hK.only [0, 2, 4], Le.refl _, hS, c1re0⟩
 ·
  replace h := hv1; clear hv1
  refine w_region ?_
  refine qp 14 (.pointer (some ⟨a0_b, 0, none⟩)) hK fun fr hK => ?_
  refine qp 15 (.pointer (some ⟨a0_b, 0, none⟩)) hK fun fr hK => ?_
  refine qp 16 (.pointer (some ⟨a0_b, 2, none⟩)) hK fun fr hK => ?_
  refine qo 17 hK (s_load hK.at_ hS 1 rfl rfl rfl rfl (by kernel_rfl) ?_)
  clear hK fr; intro fr hK
  refine qp 18 (.bool (y1.2.code == 0)) hK fun fr hK => ?_
  refine qp 19 (.bool (y1.2.code == 0)) hK fun fr hK => ?_
  refine split_b (x := (y1.2.code == 0)) (fun hb3 => ?_) (fun hb3 => ?_)
  ·
   replace hK := hK.more (t := 19) (v' := .bool true) rfl (by rw [hb3])
   replace hK := hK.more (t := 18) (v' := .bool true) rfl (by rw [hb3])
   replace h := ite_t (eq_of_beq hb3) h
   refine qp 20 (.pointer (some ⟨b2, 0, none⟩)) hK fun fr hK => ?_
   refine qo 21 hK (s_load hK.at_ hS 0 rfl rfl rfl rfl (by kernel_rfl) ?_)
   clear hK fr; intro fr hK
   refine qp 22 (.bool ((IntKind.i64.wrap y1.1) != 1)) hK fun fr hK => ?_
   refine qp 23 (.bool ((IntKind.i64.wrap y1.1) != 1)) hK fun fr hK => ?_
   refine qp 24 (.bool ((IntKind.i64.wrap y1.1) != 1)) hK fun fr hK => ?_
   refine split_b (x := ((IntKind.i64.wrap y1.1) != 1)) (fun hb4 => ?_) (fun hb4 => ?_)
   ·
    replace hK := hK.more (t := 24) (v' := .bool true) rfl (by rw [hb4])
    replace hK := hK.more (t := 23) (v' := .bool true) rfl (by rw [hb4])
    replace hK := hK.more (t := 22) (v' := .bool true) rfl (by rw [hb4])
    replace h := ite_t (ne_of_bne hb4) h
    refine qp 25 (.pointer (some ⟨b2, 0, none⟩)) hK fun fr hK => ?_
    refine qo 26 hK (s_load hK.at_ hS 0 rfl rfl rfl rfl (by kernel_rfl) ?_)
    clear hK fr; intro fr hK
    refine qp 27 (.bool ((IntKind.i64.wrap y1.1) != 2)) hK fun fr hK => ?_
    refine qp 28 (.bool ((IntKind.i64.wrap y1.1) != 2)) hK fun fr hK => ?_
    refine wpList_nil (then_n ?_)
    replace hS := hS.front 2 rfl
    replace hS := hS.front 2 rfl
    replace hS := hS.front 2 rfl
    replace hS : St _ m m4 [.box b2 #[.int .i64 (IntKind.i64.wrap y1.1), .int .i64 0, .int .i64 0, .int .i64 0, .slice none 0 0] 50, .box a0_b #[.slice a0_b_a y1.2.b.length a0_b_c, .int .i64 y1.2.at_, .int .i64 y1.2.code, .int .i64 y1.2.pos] a0_T, .box b1 #[.int .i64 0, .int .i64 0, .int .i64 0, .int .i64 0, .slice none 0 0] 50] := hS
    replace h := Option.some.inj h; subst h
    exact ⟨m4, rfl, hK.only [0, 2, 3, 4, 28], Le.refl _, hS⟩
   ·
    replace hK := hK.more (t := 24) (v' := .bool false) rfl (by rw [hb4])
    replace hK := hK.more (t := 23) (v' := .bool false) rfl (by rw [hb4])
    replace hK := hK.more (t := 22) (v' := .bool false) rfl (by rw [hb4])
    replace h := ite_f (not_not_intro (eq_of_bne hb4)) h
    refine qs 25 hK ?_
    clear hK fr; intro fr hK
    refine qs 26 hK ?_
    clear hK fr; intro fr hK
    refine qs 27 hK ?_
    clear hK fr; intro fr hK
    refine qp 28 (.bool false) hK fun fr hK => ?_
    refine wpList_nil (then_n ?_)
    replace hS := hS.front 2 rfl
    replace hS := hS.front 2 rfl
    replace hS := hS.front 2 rfl
    replace hS : St _ m m4 [.box b2 #[.int .i64 (IntKind.i64.wrap y1.1), .int .i64 0, .int .i64 0, .int .i64 0, .slice none 0 0] 50, .box a0_b #[.slice a0_b_a y1.2.b.length a0_b_c, .int .i64 y1.2.at_, .int .i64 y1.2.code, .int .i64 y1.2.pos] a0_T, .box b1 #[.int .i64 0, .int .i64 0, .int .i64 0, .int .i64 0, .slice none 0 0] 50] := hS
    replace h := Option.some.inj h; subst h
    exact ⟨m4, rfl, hK.only [0, 2, 3, 4, 28], Le.refl _, hS⟩
  ·
   replace hK := hK.more (t := 19) (v' := .bool false) rfl (by rw [hb3])
   replace hK := hK.more (t := 18) (v' := .bool false) rfl (by rw [hb3])
   replace h := ite_f (ne_of_beq_false hb3) h
   refine qs 20 hK ?_
   clear hK fr; intro fr hK
   refine qs 21 hK ?_
   clear hK fr; intro fr hK
   refine qs 22 hK ?_
   clear hK fr; intro fr hK
   refine qp 23 (.bool false) hK fun fr hK => ?_
   refine qp 24 (.bool false) hK fun fr hK => ?_
   refine qs 25 hK ?_
   clear hK fr; intro fr hK
   refine qs 26 hK ?_
   clear hK fr; intro fr hK
   refine qs 27 hK ?_
   clear hK fr; intro fr hK
   refine qp 28 (.bool false) hK fun fr hK => ?_
   refine wpList_nil (then_n ?_)
   replace hS := hS.front 2 rfl
   replace hS := hS.front 2 rfl
   replace hS := hS.front 2 rfl
   replace hS : St _ m m4 [.box b2 #[.int .i64 (IntKind.i64.wrap y1.1), .int .i64 0, .int .i64 0, .int .i64 0, .slice none 0 0] 50, .box a0_b #[.slice a0_b_a y1.2.b.length a0_b_c, .int .i64 y1.2.at_, .int .i64 y1.2.code, .int .i64 y1.2.pos] a0_T, .box b1 #[.int .i64 0, .int .i64 0, .int .i64 0, .int .i64 0, .slice none 0 0] 50] := hS
   replace h := Option.some.inj h; subst h
   exact ⟨m4, rfl, hK.only [0, 2, 3, 4, 28], Le.refl _, hS⟩
end Go.Proofs.Ytkalbidbhaalmaa
