/- The program computes the plain functions: slices_Equal_byte_byte. Printed by a program. -/
import Derived.Test.YtkalbidbhaalmaaProg
import Derived.Test.YtkalbidbhaalmaaGs
import Derived.Test.YtkalbidbhaalmaaRep
namespace Go.Proofs.Ytkalbidbhaalmaa
open Go.RowKit G
theorem elT22_5 : ElemT Try.prog 22 5 (.int .u8 0) 1 1 := ⟨by kernel_rfl, by kernel_rfl, by kernel_rfl, by decide⟩
set_option maxRecDepth 100000 in
set_option maxHeartbeats 1000000 in
theorem G.slices_Equal_byte_byte_spec {m : Mem} {a0 : List UInt8} {a0_a : Option Addr} {a0_c : Nat} {a1 : List UInt8} {a1_a : Option Addr} {a1_c : Nat} (a0_f : Els isU8 m 1 a0_a a0_c a0) (a1_f : Els isU8 m 1 a1_a a1_c a1) {r : Bool} (h : G.slices_Equal_byte_byte a0 a1 = some r) :
  Spec Try.prog 22 #[.slice a0_a a0.length a0_c, .slice a1_a a1.length a1_c] m [] fun v m' L => L = [] ∧ v = .bool r := by
 unfold G.slices_Equal_byte_byte at h
 refine enter (args := [_, _]) 26 Try.func22 rfl rfl (by simp) fun fr hK => ?_
 have hS := St.refl (Ow.nil m)
 replace hK : Kn 26 fr [(0, .slice a0_a a0.length a0_c), (1, .slice a1_a a1.length a1_c)] := hK
 refine w_seq (w_region ?_)
 refine qp 4 (.bool false) hK fun fr hK => ?_
 refine wpList_nil (then_n ?_)
 refine w_seq ?_
 refine w_seq (w_region ?_)
 refine qp 6 (.slice a0_a a0.length a0_c) hK fun fr hK => ?_
 refine qp 7 (.int .i64 (a0.length : Int)) hK fun fr hK => ?_
 refine qp 8 (.slice a1_a a1.length a1_c) hK fun fr hK => ?_
 refine qp 9 (.int .i64 (a1.length : Int)) hK fun fr hK => ?_
 refine qp 10 (.bool ((a0.length : Int) != (a1.length : Int))) hK fun fr hK => ?_
 refine wpList_nil (then_n ?_)
 refine w_cond hK rfl (fun hb1 => ?_) (fun hb1 => ?_)
 ·
  replace hK := hK.more (t := 10) (v' := .bool true) rfl (by rw [hb1])
  replace h := ite_t (ne_of_bne hb1) h
  refine w_seq (w_region ?_)
  refine qp 4 (.bool false) hK fun fr hK => ?_
  refine wpList_nil (then_n ?_)
  refine wp_ret ?_
  refine then_r ?_
  replace h := Option.some.inj h; subst h
  refine ret_of [.tmp 4] [.bool false] rfl hK (.tmp rfl .nil) hS.dropAll ?_
  exact ⟨rfl, rfl⟩
 ·
  replace hK := hK.more (t := 10) (v' := .bool false) rfl (by rw [hb1])
  replace h := ite_f (not_not_intro (eq_of_bne hb1)) h
  refine wp_skip ?_
  refine then_n ?_
  refine w_seq ?_
  refine w_seq (w_region ?_)
  refine qp 11 (.slice a0_a a0.length a0_c) hK fun fr hK => ?_
  refine qp 12 (.int .i64 (a0.length : Int)) hK fun fr hK => ?_
  refine qp 13 (.int .i64 0) hK fun fr hK => ?_
  refine wpList_nil (then_n ?_)
  refine wp_block ?_
  refine w_loopL h (fun (s1 : Int) fr ww => ∃ m1 : Mem, m1.w = ww ∧ Kn 26 fr [(0, .slice a0_a a0.length a0_c), (1, .slice a1_a a1.length a1_c), (12, .int .i64 (a0.length : Int)), (13, .int .i64 s1)] ∧ Le m m1 ∧ St (blocksOf []) m m1 []) ?_ ?_
  · exact ⟨m, rfl, hK.only [0, 1, 12, 13], Le.refl _, hS⟩
  clear hK hS fr h
  rintro k1 s1 x1 fr _ ⟨m1, rfl, hK, l1, hS⟩ h hn1
  unfold G.slices_Equal_byte_byte_l1 at h
  refine w_seq (w_region ?_)
  refine qp 14 (.bool (decide (s1 < (a0.length : Int)))) hK fun fr hK => ?_
  refine wpList_nil (then_n ?_)
  refine w_seq ?_
  refine w_cond hK rfl (fun hb2 => ?_) (fun hb2 => ?_)
  ·
   replace hK := hK.more (t := 14) (v' := .bool true) rfl (by rw [hb2])
   replace h := ite_t (of_decide_eq_true hb2) h
   refine wp_skip ?_
   refine then_n ?_
   refine w_seq ?_
   refine wp_block ?_
   refine w_seq (w_region ?_)
   refine qp 15 (.int .i64 s1) hK fun fr hK => ?_
   refine qp 5 (.int .i64 s1) hK fun fr hK => ?_
   refine wpList_nil (then_n ?_)
   refine w_seq ?_
   replace a0_f := Els.mono rep_U8 a0_f l1
   replace a1_f := Els.mono rep_U8 a1_f l1
   obtain ⟨x2, hy1, h⟩ := bind_some h
   obtain ⟨x3, hy2, h⟩ := bind_some h
   have hlt0 : ∀ bq ∈ blocksOf [], bq < m1.w.heap.size := fun bq hbq => hS.ow.lt hbq
   refine D.wp_draw (Gr := D.GO m1 none) (S := D.SO none (blocksOf []) m m1 (fun _ => []) (fun _ => True)) (N := 0) 8 [] [([(0, none)], 0, 0, false), ([(5, none)], 0, 0, false), ([(16, some 1), (17, some 0)], 0, 0, false), ([(18, some 0)], 0, 0, false), ([(1, none)], 0, 0, false), ([(5, none)], 0, 0, false), ([(20, some 1), (21, some 0)], 0, 0, false), ([(22, some 0)], 0, 0, false)] hK.size (by kernel_rfl) (by kernel_rfl) (by kernel_rfl) rfl (D.startO hS trivial) ?_
   refine D.on_pure (D.GO_refl _ _) [(0, .slice a0_a a0.length a0_c)] (.slice a0_a a0.length a0_c) (fun ac ww hk => (.cons (hk.1.trans (hK.at_ 0 _ rfl)) (.nil _))) ?_
   refine D.on_pure (D.GO_refl _ _) [(5, .int .i64 s1)] (.int .i64 s1) (fun ac ww hk => (.cons (hk.1.trans (hK.at_ 5 _ rfl)) (.nil _))) ?_
   refine D.on_op (fun uu ww => ∃ (b1 : Nat) (p1 : Nat), uu = .pointer (some ⟨b1, p1, none⟩) ∧ At (m1.upO none ww) b1 p1 [.int .u8 (x2.toNat : Int)]) (fun _ _ _ ⟨b1, p1, e, hA1⟩ g => ⟨b1, p1, e, hA1.mono g.1⟩) (by
    intro ac ww kk hlo hhi hb hk
    obtain rfl : kk = 0 := by omega
    have h0 := hS; replace hS := hb.2.1
    have k16 : ac.eval (.tmp 16) = .slice a0_a a0.length a0_c := hk.1
    have k17 : ac.eval (.tmp 17) = .int .i64 s1 := hk.2.1
    have hKe : Ke ac [(16, .slice a0_a a0.length a0_c), (17, .int .i64 s1)] := (.cons k16 (.cons k17 (.nil _)))
    replace a0_f := Els.mono rep_U8 a0_f hb.1
    exact ⟨D.wanted0 rfl, (s_idx elT22_5 a0_f hy1 hKe rfl rfl rfl (by
    intro b1 p1 cs1 hR1 hA1
    obtain rfl := hR1
    exact ⟨⟨b1, p1, rfl, hA1⟩, D.GO_refl _ _ _, hb⟩))⟩) ?_
   refine D.on_op (fun uu _ => uu = .int .u8 (x2.toNat : Int)) (fun _ _ _ h _ => h) (by
    intro ac ww kk hlo hhi hb hk
    obtain rfl : kk = 0 := by omega
    have h0 := hS; replace hS := hb.2.1
    obtain ⟨b1, p1, k18, hA1⟩ : ∃ (b1 : Nat) (p1 : Nat), ac.eval (.tmp 18) = .pointer (some ⟨b1, p1, none⟩) ∧ At (m1.upO none ww) b1 p1 [.int .u8 (x2.toNat : Int)] := hk.1
    have hKe : Ke ac [(18, .pointer (some ⟨b1, p1, none⟩))] := (.cons k18 (.nil _))
    exact ⟨D.wanted0 rfl, D.valO (m := m1) hb (fun Post hp => s_loadAt hKe hA1 0 rfl rfl rfl rfl (by kernel_rfl) hp) rfl⟩) ?_
   refine D.on_pure (D.GO_refl _ _) [(1, .slice a1_a a1.length a1_c)] (.slice a1_a a1.length a1_c) (fun ac ww hk => (.cons (hk.1.trans (hK.at_ 1 _ rfl)) (.nil _))) ?_
   refine D.on_pure (D.GO_refl _ _) [(5, .int .i64 s1)] (.int .i64 s1) (fun ac ww hk => (.cons (hk.1.trans (hK.at_ 5 _ rfl)) (.nil _))) ?_
   refine D.on_op (fun uu ww => ∃ (b2 : Nat) (p2 : Nat), uu = .pointer (some ⟨b2, p2, none⟩) ∧ At (m1.upO none ww) b2 p2 [.int .u8 (x3.toNat : Int)]) (fun _ _ _ ⟨b2, p2, e, hA2⟩ g => ⟨b2, p2, e, hA2.mono g.1⟩) (by
    intro ac ww kk hlo hhi hb hk
    obtain rfl : kk = 0 := by omega
    have h0 := hS; replace hS := hb.2.1
    have k20 : ac.eval (.tmp 20) = .slice a1_a a1.length a1_c := hk.1
    have k21 : ac.eval (.tmp 21) = .int .i64 s1 := hk.2.1
    have hKe : Ke ac [(20, .slice a1_a a1.length a1_c), (21, .int .i64 s1)] := (.cons k20 (.cons k21 (.nil _)))
    replace a1_f := Els.mono rep_U8 a1_f hb.1
    exact ⟨D.wanted0 rfl, (s_idx elT22_5 a1_f hy2 hKe rfl rfl rfl (by
    intro b2 p2 cs2 hR2 hA2
    obtain rfl := hR2
    exact ⟨⟨b2, p2, rfl, hA2⟩, D.GO_refl _ _ _, hb⟩))⟩) ?_
   refine D.on_op (fun uu _ => uu = .int .u8 (x3.toNat : Int)) (fun _ _ _ h _ => h) (by
    intro ac ww kk hlo hhi hb hk
    obtain rfl : kk = 0 := by omega
    have h0 := hS; replace hS := hb.2.1
    obtain ⟨b2, p2, k22, hA2⟩ : ∃ (b2 : Nat) (p2 : Nat), ac.eval (.tmp 22) = .pointer (some ⟨b2, p2, none⟩) ∧ At (m1.upO none ww) b2 p2 [.int .u8 (x3.toNat : Int)] := hk.1
    have hKe : Ke ac [(22, .pointer (some ⟨b2, p2, none⟩))] := (.cons k22 (.nil _))
    exact ⟨D.wanted0 rfl, D.valO (m := m1) hb (fun Post hp => s_loadAt hKe hA2 0 rfl rfl rfl rfl (by kernel_rfl) hp) rfl⟩) ?_
   refine D.finO ?_
   intro fr2 m2 hm1 l2 hS2 hF2 hE
   replace hS2 : St _ m m2 [] := hS2
   have hK2 := D.kn_ends [(16, .slice a0_a a0.length a0_c), (17, .int .i64 s1), (18, fr2.eval (.tmp 18)), (19, .int .u8 (x2.toNat : Int)), (20, .slice a1_a a1.length a1_c), (21, .int .i64 s1), (22, fr2.eval (.tmp 22)), (23, .int .u8 (x3.toNat : Int))] hK hE rfl (by kernel_rfl) (.cons (hE.slots 16) (.cons (hE.slots 17) (.cons (rfl) (.cons (hE.slots 19) (.cons (hE.slots 20) (.cons (hE.slots 21) (.cons (rfl) (.cons (hE.slots 23) (.nil _)))))))))
   replace hK2 : Kn 26 fr2 [(16, .slice a0_a a0.length a0_c), (17, .int .i64 s1), (19, .int .u8 (x2.toNat : Int)), (20, .slice a1_a a1.length a1_c), (21, .int .i64 s1), (23, .int .u8 (x3.toNat : Int)), (5, .int .i64 s1), (15, .int .i64 s1), (14, .bool true), (0, .slice a0_a a0.length a0_c), (1, .slice a1_a a1.length a1_c), (12, .int .i64 (a0.length : Int)), (13, .int .i64 s1)] := hK2.only [16, 17, 19, 20, 21, 23, 5, 15, 14, 0, 1, 12, 13]
   clear hE hK; revert hK2; clear hm1 hS hlt0; revert fr2; clear fr; intro fr hK; have hS := hS2; clear hS2
   replace hS : St _ m m2 [] := hS
   refine qp 24 (.bool ((x2.toNat : Int) != (x3.toNat : Int))) hK fun fr hK => ?_
   refine wpList_nil (then_n ?_)
   refine w_cond hK rfl (fun hb3 => ?_) (fun hb3 => ?_)
   ·
    replace hK := hK.more (t := 24) (v' := .bool true) rfl (by rw [hb3])
    replace h := ite_t (ne_of_bne hb3) h
    refine w_seq (w_region ?_)
    refine qp 4 (.bool false) hK fun fr hK => ?_
    refine wpList_nil (then_n ?_)
    refine wp_ret ?_
    refine blk_r ?_
    refine then_r ?_
    refine then_r ?_
    refine blk_r ?_
    refine then_r ?_
    replace h := Option.some.inj h; subst h
    replace h := Option.some.inj (loop_out hn1); subst h
    refine ret_of [.tmp 4] [.bool false] rfl hK (.tmp rfl .nil) hS.dropAll ?_
    exact ⟨rfl, rfl⟩
   ·
    replace hK := hK.more (t := 24) (v' := .bool false) rfl (by rw [hb3])
    replace h := ite_f (not_not_intro (eq_of_bne hb3)) h
    refine wp_skip ?_
    refine blk_n ?_
    refine then_n ?_
    refine w_region ?_
    refine qp 25 (.int .i64 (IntKind.i64.wrap (s1 + 1))) hK fun fr hK => ?_
    refine qp 13 (.int .i64 (IntKind.i64.wrap (s1 + 1))) hK fun fr hK => ?_
    refine wpList_nil (then_n ?_)
    replace h := Option.some.inj h; subst h
    obtain ⟨kq, hk1, hk2⟩ := hn1
    exact ⟨kq, hk1, _, hk2, m2, rfl, hK.only [0, 1, 12, 13], l1.trans l2, hS⟩
  ·
   replace hK := hK.more (t := 14) (v' := .bool false) rfl (by rw [hb2])
   replace h := ite_f (of_decide_eq_false hb2) h
   refine wp_exit ?_
   refine then_x ?_
   refine then_x ?_
   refine blk_e ?_
   refine then_n ?_
   refine w_seq (w_region ?_)
   refine qp 4 (.bool true) hK fun fr hK => ?_
   refine wpList_nil (then_n ?_)
   refine wp_ret ?_
   replace h := Option.some.inj h; subst h
   replace h := Option.some.inj (loop_out hn1); subst h
   refine ret_of [.tmp 4] [.bool true] rfl hK (.tmp rfl .nil) hS.dropAll ?_
   exact ⟨rfl, rfl⟩
end Go.Proofs.Ytkalbidbhaalmaa
