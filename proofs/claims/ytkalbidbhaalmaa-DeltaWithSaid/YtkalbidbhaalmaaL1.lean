/- The program computes the plain functions: slices_symMergeCmpFunc_int_v0_delta_sorted_1, slices_stableCmpFunc_int_v0_delta_sorted_1, slices_SortStableFunc_int_int_v0_delta_sorted_1, delta_sorted, delta_tiles, extent_between, extent_Overlap, delta_overlap. Printed by a program. -/
import Derived.Test.YtkalbidbhaalmaaProg
import Derived.Test.YtkalbidbhaalmaaGs
import Derived.Test.YtkalbidbhaalmaaRep
import Derived.Test.YtkalbidbhaalmaaL0
namespace Go.Proofs.Ytkalbidbhaalmaa
open Go.RowKit G
theorem ent70_1 : Enters Try.prog 70 := enters_of Try.func70 (by decide +kernel) (by decide +kernel)
theorem ent88_1 : Enters Try.prog 88 := enters_of Try.func88 (by decide +kernel) (by decide +kernel)
theorem ent93_1 : Enters Try.prog 93 := enters_of Try.func93 (by decide +kernel) (by decide +kernel)
theorem ent94_1 : Enters Try.prog 94 := enters_of Try.func94 (by decide +kernel) (by decide +kernel)
theorem ent95_1 : Enters Try.prog 95 := enters_of Try.func95 (by decide +kernel) (by decide +kernel)
theorem ent96_1 : Enters Try.prog 96 := enters_of Try.func96 (by decide +kernel) (by decide +kernel)
theorem ent98_1 : Enters Try.prog 98 := enters_of Try.func98 (by decide +kernel) (by decide +kernel)
theorem ent107_1 : Enters Try.prog 107 := enters_of Try.func107 (by decide +kernel) (by decide +kernel)
theorem ent108_1 : Enters Try.prog 108 := enters_of Try.func108 (by decide +kernel) (by decide +kernel)
theorem ent112_1 : Enters Try.prog 112 := enters_of Try.func112 (by decide +kernel) (by decide +kernel)
theorem ent113_1 : Enters Try.prog 113 := enters_of Try.func113 (by decide +kernel) (by decide +kernel)
theorem ent114_1 : Enters Try.prog 114 := enters_of Try.func114 (by decide +kernel) (by decide +kernel)
theorem elT25_1 : ElemT Try.prog 25 50 (.agg #[.int .i64 0, .int .i64 0, .int .i64 0, .int .i64 0, .slice none 0 0]) 5 56 := ⟨by kernel_rfl, by kernel_rfl, by kernel_rfl, by decide⟩
theorem elT124_1 : ElemT Try.prog 124 3 (.int .i64 0) 1 8 := ⟨by kernel_rfl, by kernel_rfl, by kernel_rfl, by decide⟩
set_option maxRecDepth 100000 in
set_option maxHeartbeats 1000000 in
theorem G.slices_symMergeCmpFunc_int_v0_delta_sorted_1_step (fx : ((List Int) × Int × Int × Int × (List G.Command)) → Option (List Int)) (hfx : ∀ {m : Mem} {a0 : List Int} {a0_b : Nat} {a0_T : TypeId} {a0_n : Nat} (a0_l : a0.length = a0_n) {a1 : Int} {a2 : Int} {a3 : Int} {a4 : (List G.Command)} {a4_0_b : Nat} {a4_0_a : Option Addr} {a4_0_c : Nat} {a4_0_T : TypeId} (a4_0_f : Els is_G_Command m 5 a4_0_a a4_0_c a4) {r : (List Int)} (h : fx (a0, a1, a2, a3, a4) = some r) (hO : Ow m [.box a0_b (vecC (Value.int .i64) a0) a0_T, .box a4_0_b #[.slice a4_0_a a4.length a4_0_c] a4_0_T]), Spec Try.prog 113 #[.slice (some ⟨a0_b, 0, none⟩) a0_n a0_n, .int .i64 a1, .int .i64 a2, .int .i64 a3, .func (.func 96) #[] #[.pointer (some ⟨a4_0_b, 0, none⟩)]] m [.box a0_b (vecC (Value.int .i64) a0) a0_T, .box a4_0_b #[.slice a4_0_a a4.length a4_0_c] a4_0_T] fun v m' L => L = [.box a0_b (vecC (Value.int .i64) r) a0_T, .box a4_0_b #[.slice a4_0_a a4.length a4_0_c] a4_0_T] ∧ v = .tuple #[] ∧ r.length = a0_n) {m : Mem} {a0 : List Int} {a0_b : Nat} {a0_T : TypeId} {a0_n : Nat} (a0_l : a0.length = a0_n) {a1 : Int} {a2 : Int} {a3 : Int} {a4 : (List G.Command)} {a4_0_b : Nat} {a4_0_a : Option Addr} {a4_0_c : Nat} {a4_0_T : TypeId} (a4_0_f : Els is_G_Command m 5 a4_0_a a4_0_c a4) {r : (List Int)} (h : G.slices_symMergeCmpFunc_int_v0_delta_sorted_1_b fx a0 a1 a2 a3 a4 = some r) (hO : Ow m [.box a0_b (vecC (Value.int .i64) a0) a0_T, .box a4_0_b #[.slice a4_0_a a4.length a4_0_c] a4_0_T]) :
  Spec Try.prog 113 #[.slice (some ⟨a0_b, 0, none⟩) a0_n a0_n, .int .i64 a1, .int .i64 a2, .int .i64 a3, .func (.func 96) #[] #[.pointer (some ⟨a4_0_b, 0, none⟩)]] m [.box a0_b (vecC (Value.int .i64) a0) a0_T, .box a4_0_b #[.slice a4_0_a a4.length a4_0_c] a4_0_T] fun v m' L => L = [.box a0_b (vecC (Value.int .i64) r) a0_T, .box a4_0_b #[.slice a4_0_a a4.length a4_0_c] a4_0_T] ∧ v = .tuple #[] ∧ r.length = a0_n := by
 subst a0_l
 unfold G.slices_symMergeCmpFunc_int_v0_delta_sorted_1_b at h
 refine enter (args := [_, _, _, _, _]) 220 Try.func113 rfl rfl (by simp) fun fr hK => ?_
 have hS := St.refl (hO)
 replace hK : Kn 220 fr [(0, .slice (some ⟨a0_b, 0, none⟩) a0.length a0.length), (1, .int .i64 a1), (2, .int .i64 a2), (3, .int .i64 a3), (4, .func (.func 96) #[] #[.pointer (some ⟨a4_0_b, 0, none⟩)])] := hK
 refine w_seq ?_
 refine w_seq (w_region ?_)
 refine qp 25 (.int .i64 a2) hK fun fr hK => ?_
 refine qp 26 (.int .i64 a1) hK fun fr hK => ?_
 refine qp 27 (.int .i64 (IntKind.i64.wrap (a2 - a1))) hK fun fr hK => ?_
 refine qp 28 (.bool ((IntKind.i64.wrap (a2 - a1)) == 1)) hK fun fr hK => ?_
 refine wpListIn_nil (then_n ?_)
 obtain ⟨v1, hv1, hk1⟩ := bind_some h; clear h
 refine w_join (fun fr ww => ∃ u1, v1 = .inl u1 ∧ ∃ m1 : Mem, m1.w = ww ∧ Kn 220 fr [(0, .slice (some ⟨a0_b, 0, none⟩) a0.length a0.length), (1, .int .i64 a1), (2, .int .i64 a2), (3, .int .i64 a3), (4, .func (.func 96) #[] #[.pointer (some ⟨a4_0_b, 0, none⟩)])] ∧ Le m m1 ∧ St (blocksOf [.box a0_b (vecC (Value.int .i64) a0) a0_T, .box a4_0_b #[.slice a4_0_a a4.length a4_0_c] a4_0_T]) m m1 [.box a4_0_b #[.slice a4_0_a a4.length a4_0_c] a4_0_T, .box a0_b (vecC (Value.int .i64) a0) a0_T]) ?_ ?_
 ·
  clear hK hS fr
  rintro fr _ ⟨u1, rfl, m1, rfl, hK, l1, hS⟩
  have h := join_in hk1
  refine then_n ?_
  refine w_seq ?_
  refine w_seq (w_region ?_)
  refine qp 77 (.int .i64 a3) hK fun fr hK => ?_
  refine qp 78 (.int .i64 a2) hK fun fr hK => ?_
  refine qp 79 (.int .i64 (IntKind.i64.wrap (a3 - a2))) hK fun fr hK => ?_
  refine qp 80 (.bool ((IntKind.i64.wrap (a3 - a2)) == 1)) hK fun fr hK => ?_
  refine wpListIn_nil (then_n ?_)
  obtain ⟨v2, hv2, hk2⟩ := bind_some h; clear h
  refine w_join (fun fr ww => ∃ u2, v2 = .inl u2 ∧ ∃ m2 : Mem, m2.w = ww ∧ Kn 220 fr [(0, .slice (some ⟨a0_b, 0, none⟩) a0.length a0.length), (1, .int .i64 a1), (2, .int .i64 a2), (3, .int .i64 a3), (4, .func (.func 96) #[] #[.pointer (some ⟨a4_0_b, 0, none⟩)])] ∧ Le m1 m2 ∧ St (blocksOf [.box a0_b (vecC (Value.int .i64) a0) a0_T, .box a4_0_b #[.slice a4_0_a a4.length a4_0_c] a4_0_T]) m m2 [.box a4_0_b #[.slice a4_0_a a4.length a4_0_c] a4_0_T, .box a0_b (vecC (Value.int .i64) a0) a0_T]) ?_ ?_
  ·
   clear hK hS fr
   rintro fr _ ⟨u2, rfl, m2, rfl, hK, l2, hS⟩
   have h := join_in hk2
   refine then_n ?_
   refine w_seq (w_region ?_)
   refine qp 129 (.int .i64 a1) hK fun fr hK => ?_
   refine qp 130 (.int .i64 a3) hK fun fr hK => ?_
   refine qp 131 (.int .i64 (IntKind.i64.wrap (a1 + a3))) hK fun fr hK => ?_
   refine qp 132 (.int .u64 (IntKind.u64.wrap (IntKind.i64.wrap (a1 + a3)))) hK fun fr hK => ?_
   refine qr 133 (.int .u64 (ishr .u64 (IntKind.u64.wrap (IntKind.i64.wrap (a1 + a3))) 1)) hK (by exact run_shr (by decide) rfl rfl rfl) ?_
   clear hK fr; intro fr hK
   refine qp 134 (.int .i64 (IntKind.i64.wrap (ishr .u64 (IntKind.u64.wrap (IntKind.i64.wrap (a1 + a3))) 1))) hK fun fr hK => ?_
   refine qp 18 (.int .i64 (IntKind.i64.wrap (ishr .u64 (IntKind.u64.wrap (IntKind.i64.wrap (a1 + a3))) 1))) hK fun fr hK => ?_
   refine wpListIn_nil (then_n ?_)
   refine w_seq (w_region ?_)
   refine qp 135 (.int .i64 (IntKind.i64.wrap (ishr .u64 (IntKind.u64.wrap (IntKind.i64.wrap (a1 + a3))) 1))) hK fun fr hK => ?_
   refine qp 136 (.int .i64 a2) hK fun fr hK => ?_
   refine qp 137 (.int .i64 (IntKind.i64.wrap ((IntKind.i64.wrap (ishr .u64 (IntKind.u64.wrap (IntKind.i64.wrap (a1 + a3))) 1)) + a2))) hK fun fr hK => ?_
   refine qp 19 (.int .i64 (IntKind.i64.wrap ((IntKind.i64.wrap (ishr .u64 (IntKind.u64.wrap (IntKind.i64.wrap (a1 + a3))) 1)) + a2))) hK fun fr hK => ?_
   refine wpListIn_nil (then_n ?_)
   refine w_seq (w_region ?_)
   refine qp 20 (.int .i64 0) hK fun fr hK => ?_
   refine qp 21 (.int .i64 0) hK fun fr hK => ?_
   refine wpListIn_nil (then_n ?_)
   refine w_seq ?_
   refine w_seq (w_region ?_)
   refine qp 138 (.int .i64 a2) hK fun fr hK => ?_
   refine qp 139 (.int .i64 (IntKind.i64.wrap (ishr .u64 (IntKind.u64.wrap (IntKind.i64.wrap (a1 + a3))) 1))) hK fun fr hK => ?_
   refine qp 140 (.bool (decide (a2 > (IntKind.i64.wrap (ishr .u64 (IntKind.u64.wrap (IntKind.i64.wrap (a1 + a3))) 1))))) hK fun fr hK => ?_
   refine wpListIn_nil (then_n ?_)
   obtain ⟨v3, hv3, h⟩ := bind_some h
   refine w_join (fun fr ww => ∃ m3 : Mem, m3.w = ww ∧ Kn 220 fr [(0, .slice (some ⟨a0_b, 0, none⟩) a0.length a0.length), (1, .int .i64 a1), (2, .int .i64 a2), (3, .int .i64 a3), (4, .func (.func 96) #[] #[.pointer (some ⟨a4_0_b, 0, none⟩)]), (18, .int .i64 (IntKind.i64.wrap (ishr .u64 (IntKind.u64.wrap (IntKind.i64.wrap (a1 + a3))) 1))), (19, .int .i64 (IntKind.i64.wrap ((IntKind.i64.wrap (ishr .u64 (IntKind.u64.wrap (IntKind.i64.wrap (a1 + a3))) 1)) + a2))), (20, .int .i64 v3.1), (21, .int .i64 v3.2)] ∧ Le m2 m3 ∧ St (blocksOf [.box a0_b (vecC (Value.int .i64) a0) a0_T, .box a4_0_b #[.slice a4_0_a a4.length a4_0_c] a4_0_T]) m m3 [.box a4_0_b #[.slice a4_0_a a4.length a4_0_c] a4_0_T, .box a0_b (vecC (Value.int .i64) a0) a0_T]) ?_ ?_
   ·
    clear hK hS fr hv3
    rintro fr _ ⟨m3, rfl, hK, l3, hS⟩
    refine then_n ?_
    refine w_seq (w_region ?_)
    refine qp 147 (.int .i64 (IntKind.i64.wrap ((IntKind.i64.wrap (ishr .u64 (IntKind.u64.wrap (IntKind.i64.wrap (a1 + a3))) 1)) + a2))) hK fun fr hK => ?_
    refine qp 148 (.int .i64 (IntKind.i64.wrap ((IntKind.i64.wrap ((IntKind.i64.wrap (ishr .u64 (IntKind.u64.wrap (IntKind.i64.wrap (a1 + a3))) 1)) + a2)) - 1))) hK fun fr hK => ?_
    refine qp 22 (.int .i64 (IntKind.i64.wrap ((IntKind.i64.wrap ((IntKind.i64.wrap (ishr .u64 (IntKind.u64.wrap (IntKind.i64.wrap (a1 + a3))) 1)) + a2)) - 1))) hK fun fr hK => ?_
    refine wpListIn_nil (then_n ?_)
    refine w_seq ?_
    obtain ⟨v4, hv4, h⟩ := bind_some h
    refine w_join (fun fr ww => ∃ m4 : Mem, m4.w = ww ∧ Kn 220 fr [(0, .slice (some ⟨a0_b, 0, none⟩) a0.length a0.length), (1, .int .i64 a1), (2, .int .i64 a2), (3, .int .i64 a3), (4, .func (.func 96) #[] #[.pointer (some ⟨a4_0_b, 0, none⟩)]), (18, .int .i64 (IntKind.i64.wrap (ishr .u64 (IntKind.u64.wrap (IntKind.i64.wrap (a1 + a3))) 1))), (19, .int .i64 (IntKind.i64.wrap ((IntKind.i64.wrap (ishr .u64 (IntKind.u64.wrap (IntKind.i64.wrap (a1 + a3))) 1)) + a2))), (20, .int .i64 v4)] ∧ Le m3 m4 ∧ St (blocksOf [.box a0_b (vecC (Value.int .i64) a0) a0_T, .box a4_0_b #[.slice a4_0_a a4.length a4_0_c] a4_0_T]) m m4 [.box a4_0_b #[.slice a4_0_a a4.length a4_0_c] a4_0_T, .box a0_b (vecC (Value.int .i64) a0) a0_T]) ?_ ?_
    ·
     clear hK hS fr hv4
     rintro fr _ ⟨m4, rfl, hK, l4, hS⟩
     refine then_n ?_
     refine w_seq (w_region ?_)
     refine qp 175 (.int .i64 (IntKind.i64.wrap ((IntKind.i64.wrap (ishr .u64 (IntKind.u64.wrap (IntKind.i64.wrap (a1 + a3))) 1)) + a2))) hK fun fr hK => ?_
     refine qp 176 (.int .i64 v4) hK fun fr hK => ?_
     refine qp 177 (.int .i64 (IntKind.i64.wrap ((IntKind.i64.wrap ((IntKind.i64.wrap (ishr .u64 (IntKind.u64.wrap (IntKind.i64.wrap (a1 + a3))) 1)) + a2)) - v4))) hK fun fr hK => ?_
     refine qp 24 (.int .i64 (IntKind.i64.wrap ((IntKind.i64.wrap ((IntKind.i64.wrap (ishr .u64 (IntKind.u64.wrap (IntKind.i64.wrap (a1 + a3))) 1)) + a2)) - v4))) hK fun fr hK => ?_
     refine wpListIn_nil (then_n ?_)
     refine w_seq ?_
     refine w_seq ?_
     obtain ⟨v5, hv5, h⟩ := bind_some h
     refine w_join (fun fr ww => ∃ m5 : Mem, m5.w = ww ∧ Kn 220 fr [(0, .slice (some ⟨a0_b, 0, none⟩) a0.length a0.length), (1, .int .i64 a1), (2, .int .i64 a2), (3, .int .i64 a3), (4, .func (.func 96) #[] #[.pointer (some ⟨a4_0_b, 0, none⟩)]), (18, .int .i64 (IntKind.i64.wrap (ishr .u64 (IntKind.u64.wrap (IntKind.i64.wrap (a1 + a3))) 1))), (20, .int .i64 v4), (24, .int .i64 (IntKind.i64.wrap ((IntKind.i64.wrap ((IntKind.i64.wrap (ishr .u64 (IntKind.u64.wrap (IntKind.i64.wrap (a1 + a3))) 1)) + a2)) - v4))), (185, .bool v5)] ∧ Le m4 m5 ∧ St (blocksOf [.box a0_b (vecC (Value.int .i64) a0) a0_T, .box a4_0_b #[.slice a4_0_a a4.length a4_0_c] a4_0_T]) m m5 [.box a4_0_b #[.slice a4_0_a a4.length a4_0_c] a4_0_T, .box a0_b (vecC (Value.int .i64) a0) a0_T]) ?_ ?_
     ·
      clear hK hS fr hv5
      rintro fr _ ⟨m5, rfl, hK, l5, hS⟩
      refine then_n ?_
      obtain ⟨v6, hv6, h⟩ := bind_some h
      refine w_join (fun fr ww => ∃ m6 : Mem, m6.w = ww ∧ Kn 220 fr [(0, .slice (some ⟨a0_b, 0, none⟩) a0.length a0.length), (1, .int .i64 a1), (3, .int .i64 a3), (4, .func (.func 96) #[] #[.pointer (some ⟨a4_0_b, 0, none⟩)]), (18, .int .i64 (IntKind.i64.wrap (ishr .u64 (IntKind.u64.wrap (IntKind.i64.wrap (a1 + a3))) 1))), (20, .int .i64 v4), (24, .int .i64 (IntKind.i64.wrap ((IntKind.i64.wrap ((IntKind.i64.wrap (ishr .u64 (IntKind.u64.wrap (IntKind.i64.wrap (a1 + a3))) 1)) + a2)) - v4)))] ∧ Le m5 m6 ∧ St (blocksOf [.box a0_b (vecC (Value.int .i64) a0) a0_T, .box a4_0_b #[.slice a4_0_a a4.length a4_0_c] a4_0_T]) m m6 [.box a4_0_b #[.slice a4_0_a a4.length a4_0_c] a4_0_T, .box a0_b (vecC (Value.int .i64) v6) a0_T] ∧ v6.length = a0.length) ?_ ?_
      ·
       clear hK hS fr hv6
       rintro fr _ ⟨m6, rfl, hK, l6, hS, hq1⟩
       refine then_n ?_
       refine w_seq ?_
       refine w_seq ?_
       obtain ⟨v7, hv7, h⟩ := bind_some h
       refine w_join (fun fr ww => ∃ m7 : Mem, m7.w = ww ∧ Kn 220 fr [(0, .slice (some ⟨a0_b, 0, none⟩) a0.length a0.length), (1, .int .i64 a1), (3, .int .i64 a3), (4, .func (.func 96) #[] #[.pointer (some ⟨a4_0_b, 0, none⟩)]), (18, .int .i64 (IntKind.i64.wrap (ishr .u64 (IntKind.u64.wrap (IntKind.i64.wrap (a1 + a3))) 1))), (20, .int .i64 v4), (24, .int .i64 (IntKind.i64.wrap ((IntKind.i64.wrap ((IntKind.i64.wrap (ishr .u64 (IntKind.u64.wrap (IntKind.i64.wrap (a1 + a3))) 1)) + a2)) - v4))), (199, .bool v7)] ∧ Le m6 m7 ∧ St (blocksOf [.box a0_b (vecC (Value.int .i64) a0) a0_T, .box a4_0_b #[.slice a4_0_a a4.length a4_0_c] a4_0_T]) m m7 [.box a4_0_b #[.slice a4_0_a a4.length a4_0_c] a4_0_T, .box a0_b (vecC (Value.int .i64) v6) a0_T]) ?_ ?_
       ·
        clear hK hS fr hv7
        rintro fr _ ⟨m7, rfl, hK, l7, hS⟩
        refine then_n ?_
        obtain ⟨v8, hv8, h⟩ := bind_some h
        refine w_join (fun fr ww => ∃ m8 : Mem, m8.w = ww ∧ Kn 220 fr [(0, .slice (some ⟨a0_b, 0, none⟩) a0.length a0.length), (3, .int .i64 a3), (4, .func (.func 96) #[] #[.pointer (some ⟨a4_0_b, 0, none⟩)]), (18, .int .i64 (IntKind.i64.wrap (ishr .u64 (IntKind.u64.wrap (IntKind.i64.wrap (a1 + a3))) 1))), (24, .int .i64 (IntKind.i64.wrap ((IntKind.i64.wrap ((IntKind.i64.wrap (ishr .u64 (IntKind.u64.wrap (IntKind.i64.wrap (a1 + a3))) 1)) + a2)) - v4)))] ∧ Le m7 m8 ∧ St (blocksOf [.box a0_b (vecC (Value.int .i64) a0) a0_T, .box a4_0_b #[.slice a4_0_a a4.length a4_0_c] a4_0_T]) m m8 [.box a4_0_b #[.slice a4_0_a a4.length a4_0_c] a4_0_T, .box a0_b (vecC (Value.int .i64) v8) a0_T] ∧ v8.length = a0.length) ?_ ?_
        ·
         clear hK hS fr hv8
         rintro fr _ ⟨m8, rfl, hK, l8, hS, hq2⟩
         refine then_n ?_
         refine w_seq ?_
         obtain ⟨v9, hv9, h⟩ := bind_some h
         refine w_join (fun fr ww => ∃ m9 : Mem, m9.w = ww ∧ Kn 220 fr [(0, .slice (some ⟨a0_b, 0, none⟩) a0.length a0.length), (3, .int .i64 a3), (4, .func (.func 96) #[] #[.pointer (some ⟨a4_0_b, 0, none⟩)]), (18, .int .i64 (IntKind.i64.wrap (ishr .u64 (IntKind.u64.wrap (IntKind.i64.wrap (a1 + a3))) 1))), (24, .int .i64 (IntKind.i64.wrap ((IntKind.i64.wrap ((IntKind.i64.wrap (ishr .u64 (IntKind.u64.wrap (IntKind.i64.wrap (a1 + a3))) 1)) + a2)) - v4))), (213, .bool v9)] ∧ Le m8 m9 ∧ St (blocksOf [.box a0_b (vecC (Value.int .i64) a0) a0_T, .box a4_0_b #[.slice a4_0_a a4.length a4_0_c] a4_0_T]) m m9 [.box a4_0_b #[.slice a4_0_a a4.length a4_0_c] a4_0_T, .box a0_b (vecC (Value.int .i64) v8) a0_T]) ?_ ?_
         ·
          clear hK hS fr hv9
          rintro fr _ ⟨m9, rfl, hK, l9, hS⟩
          refine then_n ?_
          refine w_cond hK rfl (fun hb1 => ?_) (fun hb1 => ?_)
          ·
           replace hK := hK.more (t := 213) (v' := .bool true) rfl (by rw [hb1])
           replace h := ite_t (hb1) h
           refine w_region ?_
           refine qp 214 (.slice (some ⟨a0_b, 0, none⟩) a0.length a0.length) hK fun fr hK => ?_
           refine qp 215 (.int .i64 (IntKind.i64.wrap (ishr .u64 (IntKind.u64.wrap (IntKind.i64.wrap (a1 + a3))) 1))) hK fun fr hK => ?_
           refine qp 216 (.int .i64 (IntKind.i64.wrap ((IntKind.i64.wrap ((IntKind.i64.wrap (ishr .u64 (IntKind.u64.wrap (IntKind.i64.wrap (a1 + a3))) 1)) + a2)) - v4))) hK fun fr hK => ?_
           refine qp 217 (.int .i64 a3) hK fun fr hK => ?_
           refine qp 218 (.func (.func 96) #[] #[.pointer (some ⟨a4_0_b, 0, none⟩)]) hK fun fr hK => ?_
           replace a4_0_f := Els.mono rep_G_Command a4_0_f (l1.trans (l2.trans (l3.trans (l4.trans (l5.trans (l6.trans (l7.trans (l8.trans l9))))))))
           obtain ⟨y1, hy1, h⟩ := bind_some h
           replace hS := hS.front 1 rfl
           replace hS : St _ m m9 [.box a0_b (vecC (Value.int .i64) v8) a0_T, .box a4_0_b #[.slice a4_0_a a4.length a4_0_c] a4_0_T] := hS
           refine qo 219 hK (s_callM (R := [.box a0_b (vecC (Value.int .i64) v8) a0_T, .box a4_0_b #[.slice a4_0_a a4.length a4_0_c] a4_0_T]) (L := []) hK.at_ hS ent113_1 rfl rfl rfl rfl (hfx hq2 a4_0_f hy1 (Ow.left (L := [.box a0_b (vecC (Value.int .i64) v8) a0_T, .box a4_0_b #[.slice a4_0_a a4.length a4_0_c] a4_0_T]) hS.ow)) (by kernel_rfl) ?_)
           clear hK fr hS; rintro _ m10 _ l10 hS ⟨rfl, rfl, c1re0⟩ fr hK
           replace hS : St _ m m10 [.box a0_b (vecC (Value.int .i64) y1) a0_T, .box a4_0_b #[.slice a4_0_a a4.length a4_0_c] a4_0_T] := hS
           refine wpListIn_nil ?_
           replace h := Option.some.inj h; subst h
           replace hS := hS.front 1 rfl
           replace hS := hS.front 1 rfl
           replace hS : St _ m m10 [.box a0_b (vecC (Value.int .i64) y1) a0_T, .box a4_0_b #[.slice a4_0_a a4.length a4_0_c] a4_0_T] := hS
           refine end_of [] [] rfl hK .nil hS ?_
           exact ⟨rfl, rfl, c1re0⟩
          ·
           replace hK := hK.more (t := 213) (v' := .bool false) rfl (by rw [hb1])
           replace h := ite_f (ne_true_of_eq_false hb1) h
           refine wpIn_skip ?_
           replace h := Option.some.inj h; subst h
           replace hS := hS.front 1 rfl
           replace hS : St _ m m9 [.box a0_b (vecC (Value.int .i64) v8) a0_T, .box a4_0_b #[.slice a4_0_a a4.length a4_0_c] a4_0_T] := hS
           refine end_of [] [] rfl hK .nil hS ?_
           exact ⟨rfl, rfl, hq2⟩
         ·
          replace h := hv9; clear hv9
          refine w_region ?_
          refine qp 206 (.int .i64 (IntKind.i64.wrap (ishr .u64 (IntKind.u64.wrap (IntKind.i64.wrap (a1 + a3))) 1))) hK fun fr hK => ?_
          refine qp 207 (.int .i64 (IntKind.i64.wrap ((IntKind.i64.wrap ((IntKind.i64.wrap (ishr .u64 (IntKind.u64.wrap (IntKind.i64.wrap (a1 + a3))) 1)) + a2)) - v4))) hK fun fr hK => ?_
          refine qp 208 (.bool (decide ((IntKind.i64.wrap (ishr .u64 (IntKind.u64.wrap (IntKind.i64.wrap (a1 + a3))) 1)) < (IntKind.i64.wrap ((IntKind.i64.wrap ((IntKind.i64.wrap (ishr .u64 (IntKind.u64.wrap (IntKind.i64.wrap (a1 + a3))) 1)) + a2)) - v4))))) hK fun fr hK => ?_
          refine qp 209 (.bool (decide ((IntKind.i64.wrap (ishr .u64 (IntKind.u64.wrap (IntKind.i64.wrap (a1 + a3))) 1)) < (IntKind.i64.wrap ((IntKind.i64.wrap ((IntKind.i64.wrap (ishr .u64 (IntKind.u64.wrap (IntKind.i64.wrap (a1 + a3))) 1)) + a2)) - v4))))) hK fun fr hK => ?_
          refine split_b (x := decide ((IntKind.i64.wrap (ishr .u64 (IntKind.u64.wrap (IntKind.i64.wrap (a1 + a3))) 1)) < (IntKind.i64.wrap ((IntKind.i64.wrap ((IntKind.i64.wrap (ishr .u64 (IntKind.u64.wrap (IntKind.i64.wrap (a1 + a3))) 1)) + a2)) - v4)))) (fun hb2 => ?_) (fun hb2 => ?_)
          ·
           replace hK := hK.more (t := 209) (v' := .bool true) rfl (by rw [hb2])
           replace hK := hK.more (t := 208) (v' := .bool true) rfl (by rw [hb2])
           replace h := ite_t (of_decide_eq_true hb2) h
           refine qp 210 (.int .i64 (IntKind.i64.wrap ((IntKind.i64.wrap ((IntKind.i64.wrap (ishr .u64 (IntKind.u64.wrap (IntKind.i64.wrap (a1 + a3))) 1)) + a2)) - v4))) hK fun fr hK => ?_
           refine qp 211 (.int .i64 a3) hK fun fr hK => ?_
           refine qp 212 (.bool (decide ((IntKind.i64.wrap ((IntKind.i64.wrap ((IntKind.i64.wrap (ishr .u64 (IntKind.u64.wrap (IntKind.i64.wrap (a1 + a3))) 1)) + a2)) - v4)) < a3))) hK fun fr hK => ?_
           refine qp 213 (.bool (decide ((IntKind.i64.wrap ((IntKind.i64.wrap ((IntKind.i64.wrap (ishr .u64 (IntKind.u64.wrap (IntKind.i64.wrap (a1 + a3))) 1)) + a2)) - v4)) < a3))) hK fun fr hK => ?_
           refine wpListIn_nil (then_n ?_)
           replace hS := hS.front 1 rfl
           replace hS := hS.front 1 rfl
           replace hS : St _ m m8 [.box a4_0_b #[.slice a4_0_a a4.length a4_0_c] a4_0_T, .box a0_b (vecC (Value.int .i64) v8) a0_T] := hS
           replace h := Option.some.inj h; subst h
           exact ⟨m8, rfl, hK.only [0, 3, 4, 18, 24, 213], Le.refl _, hS⟩
          ·
           replace hK := hK.more (t := 209) (v' := .bool false) rfl (by rw [hb2])
           replace hK := hK.more (t := 208) (v' := .bool false) rfl (by rw [hb2])
           replace h := ite_f (of_decide_eq_false hb2) h
           refine qs 210 hK ?_
           clear hK fr; intro fr hK
           refine qs 211 hK ?_
           clear hK fr; intro fr hK
           refine qs 212 hK ?_
           clear hK fr; intro fr hK
           refine qp 213 (.bool false) hK fun fr hK => ?_
           refine wpListIn_nil (then_n ?_)
           replace hS := hS.front 1 rfl
           replace hS := hS.front 1 rfl
           replace hS : St _ m m8 [.box a4_0_b #[.slice a4_0_a a4.length a4_0_c] a4_0_T, .box a0_b (vecC (Value.int .i64) v8) a0_T] := hS
           replace h := Option.some.inj h; subst h
           exact ⟨m8, rfl, hK.only [0, 3, 4, 18, 24, 213], Le.refl _, hS⟩
        ·
         replace h := hv8; clear hv8
         refine w_cond hK rfl (fun hb3 => ?_) (fun hb3 => ?_)
         ·
          replace hK := hK.more (t := 199) (v' := .bool true) rfl (by rw [hb3])
          replace h := ite_t (hb3) h
          refine w_region ?_
          refine qp 200 (.slice (some ⟨a0_b, 0, none⟩) a0.length a0.length) hK fun fr hK => ?_
          refine qp 201 (.int .i64 a1) hK fun fr hK => ?_
          refine qp 202 (.int .i64 v4) hK fun fr hK => ?_
          refine qp 203 (.int .i64 (IntKind.i64.wrap (ishr .u64 (IntKind.u64.wrap (IntKind.i64.wrap (a1 + a3))) 1))) hK fun fr hK => ?_
          refine qp 204 (.func (.func 96) #[] #[.pointer (some ⟨a4_0_b, 0, none⟩)]) hK fun fr hK => ?_
          replace a4_0_f := Els.mono rep_G_Command a4_0_f (l1.trans (l2.trans (l3.trans (l4.trans (l5.trans (l6.trans l7))))))
          obtain ⟨y2, hy2, h⟩ := bind_some h
          replace hS := hS.front 1 rfl
          replace hS : St _ m m7 [.box a0_b (vecC (Value.int .i64) v6) a0_T, .box a4_0_b #[.slice a4_0_a a4.length a4_0_c] a4_0_T] := hS
          refine qo 205 hK (s_callM (R := [.box a0_b (vecC (Value.int .i64) v6) a0_T, .box a4_0_b #[.slice a4_0_a a4.length a4_0_c] a4_0_T]) (L := []) hK.at_ hS ent113_1 rfl rfl rfl rfl (hfx hq1 a4_0_f hy2 (Ow.left (L := [.box a0_b (vecC (Value.int .i64) v6) a0_T, .box a4_0_b #[.slice a4_0_a a4.length a4_0_c] a4_0_T]) hS.ow)) (by kernel_rfl) ?_)
          clear hK fr hS; rintro _ m11 _ l11 hS ⟨rfl, rfl, c2re0⟩ fr hK
          replace hS : St _ m m11 [.box a0_b (vecC (Value.int .i64) y2) a0_T, .box a4_0_b #[.slice a4_0_a a4.length a4_0_c] a4_0_T] := hS
          refine wpListIn_nil (then_n ?_)
          replace hS := hS.front 1 rfl
          replace hS : St _ m m11 [.box a4_0_b #[.slice a4_0_a a4.length a4_0_c] a4_0_T, .box a0_b (vecC (Value.int .i64) y2) a0_T] := hS
          replace h := Option.some.inj h; subst h
          exact ⟨m11, rfl, hK.only [0, 3, 4, 18, 24], l11, hS, c2re0⟩
         ·
          replace hK := hK.more (t := 199) (v' := .bool false) rfl (by rw [hb3])
          replace h := ite_f (ne_true_of_eq_false hb3) h
          refine wpIn_skip ?_
          refine then_n ?_
          replace hS := hS.front 1 rfl
          replace hS := hS.front 1 rfl
          replace hS : St _ m m7 [.box a4_0_b #[.slice a4_0_a a4.length a4_0_c] a4_0_T, .box a0_b (vecC (Value.int .i64) v6) a0_T] := hS
          replace h := Option.some.inj h; subst h
          exact ⟨m7, rfl, hK.only [0, 3, 4, 18, 24], Le.refl _, hS, hq1⟩
       ·
        replace h := hv7; clear hv7
        refine w_region ?_
        refine qp 192 (.int .i64 a1) hK fun fr hK => ?_
        refine qp 193 (.int .i64 v4) hK fun fr hK => ?_
        refine qp 194 (.bool (decide (a1 < v4))) hK fun fr hK => ?_
        refine qp 195 (.bool (decide (a1 < v4))) hK fun fr hK => ?_
        refine split_b (x := decide (a1 < v4)) (fun hb4 => ?_) (fun hb4 => ?_)
        ·
         replace hK := hK.more (t := 195) (v' := .bool true) rfl (by rw [hb4])
         replace hK := hK.more (t := 194) (v' := .bool true) rfl (by rw [hb4])
         replace h := ite_t (of_decide_eq_true hb4) h
         refine qp 196 (.int .i64 v4) hK fun fr hK => ?_
         refine qp 197 (.int .i64 (IntKind.i64.wrap (ishr .u64 (IntKind.u64.wrap (IntKind.i64.wrap (a1 + a3))) 1))) hK fun fr hK => ?_
         refine qp 198 (.bool (decide (v4 < (IntKind.i64.wrap (ishr .u64 (IntKind.u64.wrap (IntKind.i64.wrap (a1 + a3))) 1))))) hK fun fr hK => ?_
         refine qp 199 (.bool (decide (v4 < (IntKind.i64.wrap (ishr .u64 (IntKind.u64.wrap (IntKind.i64.wrap (a1 + a3))) 1))))) hK fun fr hK => ?_
         refine wpListIn_nil (then_n ?_)
         replace hS := hS.front 1 rfl
         replace hS := hS.front 1 rfl
         replace hS : St _ m m6 [.box a4_0_b #[.slice a4_0_a a4.length a4_0_c] a4_0_T, .box a0_b (vecC (Value.int .i64) v6) a0_T] := hS
         replace h := Option.some.inj h; subst h
         exact ⟨m6, rfl, hK.only [0, 1, 3, 4, 18, 20, 24, 199], Le.refl _, hS⟩
        ·
         replace hK := hK.more (t := 195) (v' := .bool false) rfl (by rw [hb4])
         replace hK := hK.more (t := 194) (v' := .bool false) rfl (by rw [hb4])
         replace h := ite_f (of_decide_eq_false hb4) h
         refine qs 196 hK ?_
         clear hK fr; intro fr hK
         refine qs 197 hK ?_
         clear hK fr; intro fr hK
         refine qs 198 hK ?_
         clear hK fr; intro fr hK
         refine qp 199 (.bool false) hK fun fr hK => ?_
         refine wpListIn_nil (then_n ?_)
         replace hS := hS.front 1 rfl
         replace hS := hS.front 1 rfl
         replace hS : St _ m m6 [.box a4_0_b #[.slice a4_0_a a4.length a4_0_c] a4_0_T, .box a0_b (vecC (Value.int .i64) v6) a0_T] := hS
         replace h := Option.some.inj h; subst h
         exact ⟨m6, rfl, hK.only [0, 1, 3, 4, 18, 20, 24, 199], Le.refl _, hS⟩
      ·
       replace h := hv6; clear hv6
       refine w_cond hK rfl (fun hb5 => ?_) (fun hb5 => ?_)
       ·
        replace hK := hK.more (t := 185) (v' := .bool true) rfl (by rw [hb5])
        replace h := ite_t (hb5) h
        refine w_region ?_
        refine qp 186 (.slice (some ⟨a0_b, 0, none⟩) a0.length a0.length) hK fun fr hK => ?_
        refine qp 187 (.int .i64 v4) hK fun fr hK => ?_
        refine qp 188 (.int .i64 a2) hK fun fr hK => ?_
        refine qp 189 (.int .i64 (IntKind.i64.wrap ((IntKind.i64.wrap ((IntKind.i64.wrap (ishr .u64 (IntKind.u64.wrap (IntKind.i64.wrap (a1 + a3))) 1)) + a2)) - v4))) hK fun fr hK => ?_
        refine qp 190 (.func (.func 96) #[] #[.pointer (some ⟨a4_0_b, 0, none⟩)]) hK fun fr hK => ?_
        replace a4_0_f := Els.mono rep_G_Command a4_0_f (l1.trans (l2.trans (l3.trans (l4.trans l5))))
        obtain ⟨y3, hy3, h⟩ := bind_some h
        replace hS := hS.front 1 rfl
        replace hS : St _ m m5 [.box a0_b (vecC (Value.int .i64) a0) a0_T, .box a4_0_b #[.slice a4_0_a a4.length a4_0_c] a4_0_T] := hS
        refine qo 191 hK (s_callM (R := [.box a0_b (vecC (Value.int .i64) a0) a0_T, .box a4_0_b #[.slice a4_0_a a4.length a4_0_c] a4_0_T]) (L := []) hK.at_ hS ent114_1 rfl rfl rfl rfl (G.slices_rotateCmpFunc_int_v0_delta_sorted_1_spec rfl a4_0_f hy3 (Ow.left (L := [.box a0_b (vecC (Value.int .i64) a0) a0_T, .box a4_0_b #[.slice a4_0_a a4.length a4_0_c] a4_0_T]) hS.ow)) (by kernel_rfl) ?_)
        clear hK fr hS; rintro _ m12 _ l12 hS ⟨rfl, rfl, c3re0⟩ fr hK
        replace hS : St _ m m12 [.box a0_b (vecC (Value.int .i64) y3) a0_T, .box a4_0_b #[.slice a4_0_a a4.length a4_0_c] a4_0_T] := hS
        refine wpListIn_nil (then_n ?_)
        replace hS := hS.front 1 rfl
        replace hS : St _ m m12 [.box a4_0_b #[.slice a4_0_a a4.length a4_0_c] a4_0_T, .box a0_b (vecC (Value.int .i64) y3) a0_T] := hS
        replace h := Option.some.inj h; subst h
        exact ⟨m12, rfl, hK.only [0, 1, 3, 4, 18, 20, 24], l12, hS, c3re0⟩
       ·
        replace hK := hK.more (t := 185) (v' := .bool false) rfl (by rw [hb5])
        replace h := ite_f (ne_true_of_eq_false hb5) h
        refine wpIn_skip ?_
        refine then_n ?_
        replace hS := hS.front 1 rfl
        replace hS := hS.front 1 rfl
        replace hS : St _ m m5 [.box a4_0_b #[.slice a4_0_a a4.length a4_0_c] a4_0_T, .box a0_b (vecC (Value.int .i64) a0) a0_T] := hS
        replace h := Option.some.inj h; subst h
        exact ⟨m5, rfl, hK.only [0, 1, 3, 4, 18, 20, 24], Le.refl _, hS, rfl⟩
     ·
      replace h := hv5; clear hv5
      refine w_region ?_
      refine qp 178 (.int .i64 v4) hK fun fr hK => ?_
      refine qp 179 (.int .i64 a2) hK fun fr hK => ?_
      refine qp 180 (.bool (decide (v4 < a2))) hK fun fr hK => ?_
      refine qp 181 (.bool (decide (v4 < a2))) hK fun fr hK => ?_
      refine split_b (x := decide (v4 < a2)) (fun hb6 => ?_) (fun hb6 => ?_)
      ·
       replace hK := hK.more (t := 181) (v' := .bool true) rfl (by rw [hb6])
       replace hK := hK.more (t := 180) (v' := .bool true) rfl (by rw [hb6])
       replace h := ite_t (of_decide_eq_true hb6) h
       refine qp 182 (.int .i64 a2) hK fun fr hK => ?_
       refine qp 183 (.int .i64 (IntKind.i64.wrap ((IntKind.i64.wrap ((IntKind.i64.wrap (ishr .u64 (IntKind.u64.wrap (IntKind.i64.wrap (a1 + a3))) 1)) + a2)) - v4))) hK fun fr hK => ?_
       refine qp 184 (.bool (decide (a2 < (IntKind.i64.wrap ((IntKind.i64.wrap ((IntKind.i64.wrap (ishr .u64 (IntKind.u64.wrap (IntKind.i64.wrap (a1 + a3))) 1)) + a2)) - v4))))) hK fun fr hK => ?_
       refine qp 185 (.bool (decide (a2 < (IntKind.i64.wrap ((IntKind.i64.wrap ((IntKind.i64.wrap (ishr .u64 (IntKind.u64.wrap (IntKind.i64.wrap (a1 + a3))) 1)) + a2)) - v4))))) hK fun fr hK => ?_
       refine wpListIn_nil (then_n ?_)
       replace hS := hS.front 1 rfl
       replace hS := hS.front 1 rfl
       replace hS : St _ m m4 [.box a4_0_b #[.slice a4_0_a a4.length a4_0_c] a4_0_T, .box a0_b (vecC (Value.int .i64) a0) a0_T] := hS
       replace h := Option.some.inj h; subst h
       exact ⟨m4, rfl, hK.only [0, 1, 2, 3, 4, 18, 20, 24, 185], Le.refl _, hS⟩
      ·
       replace hK := hK.more (t := 181) (v' := .bool false) rfl (by rw [hb6])
       replace hK := hK.more (t := 180) (v' := .bool false) rfl (by rw [hb6])
       replace h := ite_f (of_decide_eq_false hb6) h
       refine qs 182 hK ?_
       clear hK fr; intro fr hK
       refine qs 183 hK ?_
       clear hK fr; intro fr hK
       refine qs 184 hK ?_
       clear hK fr; intro fr hK
       refine qp 185 (.bool false) hK fun fr hK => ?_
       refine wpListIn_nil (then_n ?_)
       replace hS := hS.front 1 rfl
       replace hS := hS.front 1 rfl
       replace hS : St _ m m4 [.box a4_0_b #[.slice a4_0_a a4.length a4_0_c] a4_0_T, .box a0_b (vecC (Value.int .i64) a0) a0_T] := hS
       replace h := Option.some.inj h; subst h
       exact ⟨m4, rfl, hK.only [0, 1, 2, 3, 4, 18, 20, 24, 185], Le.refl _, hS⟩
    ·
     replace h := hv4; clear hv4
     refine wpIn_block ?_
     replace hS := hS.front 1 rfl
     replace hS := hS.front 1 rfl
     replace hS : St _ m m3 [.box a4_0_b #[.slice a4_0_a a4.length a4_0_c] a4_0_T, .box a0_b (vecC (Value.int .i64) a0) a0_T] := hS
     refine w_loopL h (fun (s1 : Int × Int) fr ww => ∃ m13 : Mem, m13.w = ww ∧ Kn 220 fr [(0, .slice (some ⟨a0_b, 0, none⟩) a0.length a0.length), (1, .int .i64 a1), (2, .int .i64 a2), (3, .int .i64 a3), (4, .func (.func 96) #[] #[.pointer (some ⟨a4_0_b, 0, none⟩)]), (18, .int .i64 (IntKind.i64.wrap (ishr .u64 (IntKind.u64.wrap (IntKind.i64.wrap (a1 + a3))) 1))), (19, .int .i64 (IntKind.i64.wrap ((IntKind.i64.wrap (ishr .u64 (IntKind.u64.wrap (IntKind.i64.wrap (a1 + a3))) 1)) + a2))), (20, .int .i64 s1.1), (21, .int .i64 s1.2), (22, .int .i64 (IntKind.i64.wrap ((IntKind.i64.wrap ((IntKind.i64.wrap (ishr .u64 (IntKind.u64.wrap (IntKind.i64.wrap (a1 + a3))) 1)) + a2)) - 1)))] ∧ Le m3 m13 ∧ St (blocksOf [.box a0_b (vecC (Value.int .i64) a0) a0_T, .box a4_0_b #[.slice a4_0_a a4.length a4_0_c] a4_0_T]) m m13 [.box a4_0_b #[.slice a4_0_a a4.length a4_0_c] a4_0_T, .box a0_b (vecC (Value.int .i64) a0) a0_T]) ?_ ?_
     · exact ⟨m3, rfl, hK.only [0, 1, 2, 3, 4, 18, 19, 20, 21, 22], Le.refl _, hS⟩
     clear hK hS fr h
     rintro k1 s1 x1 fr _ ⟨m13, rfl, hK, l13, hS⟩ h hn1
     unfold G.slices_symMergeCmpFunc_int_v0_delta_sorted_1_l1 at h
     refine w_seq ?_
     refine w_seq (w_region ?_)
     refine qp 149 (.int .i64 s1.1) hK fun fr hK => ?_
     refine qp 150 (.int .i64 s1.2) hK fun fr hK => ?_
     refine qp 151 (.bool (decide (s1.1 < s1.2))) hK fun fr hK => ?_
     refine wpListIn_nil (then_n ?_)
     refine w_cond hK rfl (fun hb7 => ?_) (fun hb7 => ?_)
     ·
      replace hK := hK.more (t := 151) (v' := .bool true) rfl (by rw [hb7])
      replace h := ite_t (of_decide_eq_true hb7) h
      refine wpIn_skip ?_
      refine then_n ?_
      refine wpIn_block ?_
      refine w_seq (w_region ?_)
      refine qp 152 (.int .i64 s1.1) hK fun fr hK => ?_
      refine qp 153 (.int .i64 s1.2) hK fun fr hK => ?_
      refine qp 154 (.int .i64 (IntKind.i64.wrap (s1.1 + s1.2))) hK fun fr hK => ?_
      refine qp 155 (.int .u64 (IntKind.u64.wrap (IntKind.i64.wrap (s1.1 + s1.2)))) hK fun fr hK => ?_
      refine qr 156 (.int .u64 (ishr .u64 (IntKind.u64.wrap (IntKind.i64.wrap (s1.1 + s1.2))) 1)) hK (by exact run_shr (by decide) rfl rfl rfl) ?_
      clear hK fr; intro fr hK
      refine qp 157 (.int .i64 (IntKind.i64.wrap (ishr .u64 (IntKind.u64.wrap (IntKind.i64.wrap (s1.1 + s1.2))) 1))) hK fun fr hK => ?_
      refine qp 23 (.int .i64 (IntKind.i64.wrap (ishr .u64 (IntKind.u64.wrap (IntKind.i64.wrap (s1.1 + s1.2))) 1))) hK fun fr hK => ?_
      refine wpListIn_nil (then_n ?_)
      refine w_seq ?_
      replace a4_0_f := Els.mono rep_G_Command a4_0_f (l1.trans (l2.trans (l3.trans l13)))
      obtain ⟨x2, hy4, h⟩ := bind_some h
      obtain ⟨j_x2, hj_x2, hl_x2, hx_x2⟩ := idx_ok hy4
      obtain ⟨x3, hy5, h⟩ := bind_some h
      obtain ⟨j_x3, hj_x3, hl_x3, hx_x3⟩ := idx_ok hy5
      have hlt0 : ∀ bq ∈ blocksOf [.box a4_0_b #[.slice a4_0_a a4.length a4_0_c] a4_0_T, .box a0_b (vecC (Value.int .i64) a0) a0_T], bq < m13.w.heap.size := fun bq hbq => hS.ow.lt hbq
      refine D.wp_draw (Gr := D.GO m13 none) (S := D.SO none (blocksOf [.box a0_b (vecC (Value.int .i64) a0) a0_T, .box a4_0_b #[.slice a4_0_a a4.length a4_0_c] a4_0_T]) m m13 (fun _ => [.box a4_0_b #[.slice a4_0_a a4.length a4_0_c] a4_0_T, .box a0_b (vecC (Value.int .i64) a0) a0_T]) (fun _ => True)) (N := 0) 11 [] [([(4, none)], 0, 0, false), ([(0, none)], 0, 0, false), ([(22, none)], 0, 0, false), ([(23, none)], 0, 0, false), ([(160, some 1), (161, some 0)], 0, 0, false), ([(159, some 3), (162, some 0)], 0, 0, false), ([(163, some 0)], 0, 0, false), ([(0, none)], 0, 0, false), ([(23, none)], 0, 0, false), ([(165, some 1), (166, some 0)], 0, 0, false), ([(167, some 0)], 0, 0, false)] hK.size (by kernel_rfl) (by kernel_rfl) (by kernel_rfl) rfl (D.startO hS trivial) ?_
      refine D.on_pure (D.GO_refl _ _) [(4, .func (.func 96) #[] #[.pointer (some ⟨a4_0_b, 0, none⟩)])] (.func (.func 96) #[] #[.pointer (some ⟨a4_0_b, 0, none⟩)]) (fun ac ww hk => (.cons (hk.1.trans (hK.at_ 4 _ rfl)) (.nil _))) ?_
      refine D.on_pure (D.GO_refl _ _) [(0, .slice (some ⟨a0_b, 0, none⟩) a0.length a0.length)] (.slice (some ⟨a0_b, 0, none⟩) a0.length a0.length) (fun ac ww hk => (.cons (hk.1.trans (hK.at_ 0 _ rfl)) (.nil _))) ?_
      refine D.on_pure (D.GO_refl _ _) [(22, .int .i64 (IntKind.i64.wrap ((IntKind.i64.wrap ((IntKind.i64.wrap (ishr .u64 (IntKind.u64.wrap (IntKind.i64.wrap (a1 + a3))) 1)) + a2)) - 1)))] (.int .i64 (IntKind.i64.wrap ((IntKind.i64.wrap ((IntKind.i64.wrap (ishr .u64 (IntKind.u64.wrap (IntKind.i64.wrap (a1 + a3))) 1)) + a2)) - 1))) (fun ac ww hk => (.cons (hk.1.trans (hK.at_ 22 _ rfl)) (.nil _))) ?_
      refine D.on_pure (D.GO_refl _ _) [(23, .int .i64 (IntKind.i64.wrap (ishr .u64 (IntKind.u64.wrap (IntKind.i64.wrap (s1.1 + s1.2))) 1)))] (.int .i64 (IntKind.i64.wrap (ishr .u64 (IntKind.u64.wrap (IntKind.i64.wrap (s1.1 + s1.2))) 1))) (fun ac ww hk => (.cons (hk.1.trans (hK.at_ 23 _ rfl)) (.nil _))) ?_
      refine D.on_pure (D.GO_refl _ _) [(160, .int .i64 (IntKind.i64.wrap ((IntKind.i64.wrap ((IntKind.i64.wrap (ishr .u64 (IntKind.u64.wrap (IntKind.i64.wrap (a1 + a3))) 1)) + a2)) - 1))), (161, .int .i64 (IntKind.i64.wrap (ishr .u64 (IntKind.u64.wrap (IntKind.i64.wrap (s1.1 + s1.2))) 1)))] (.int .i64 (IntKind.i64.wrap ((IntKind.i64.wrap ((IntKind.i64.wrap ((IntKind.i64.wrap (ishr .u64 (IntKind.u64.wrap (IntKind.i64.wrap (a1 + a3))) 1)) + a2)) - 1)) - (IntKind.i64.wrap (ishr .u64 (IntKind.u64.wrap (IntKind.i64.wrap (s1.1 + s1.2))) 1))))) (fun ac ww hk => (.cons (hk.1) (.cons (hk.2.1) (.nil _)))) ?_
      refine D.on_det (D.GO_refl _ _) [(159, .slice (some ⟨a0_b, 0, none⟩) a0.length a0.length), (162, .int .i64 (IntKind.i64.wrap ((IntKind.i64.wrap ((IntKind.i64.wrap ((IntKind.i64.wrap (ishr .u64 (IntKind.u64.wrap (IntKind.i64.wrap (a1 + a3))) 1)) + a2)) - 1)) - (IntKind.i64.wrap (ishr .u64 (IntKind.u64.wrap (IntKind.i64.wrap (s1.1 + s1.2))) 1)))))] (.pointer (some ⟨a0_b, j_x2, none⟩)) (fun ac ww hk => (.cons (hk.1) (.cons (hk.2.1) (.nil _)))) (fun ac ww kk hb hKe Post hp => s_indexV (m := (m13.upO none ww)) elT124_1 j_x2 hKe rfl rfl rfl hj_x2 (Nat.lt_of_lt_of_eq hl_x2 rfl) hp) ?_
      refine D.on_det (D.GO_refl _ _) [(163, .pointer (some ⟨a0_b, j_x2, none⟩))] (.int .i64 x2) (fun ac ww hk => (.cons (hk.1) (.nil _))) (fun ac ww kk hb hKe Post hp => (fun hS => s_load hKe hS 1 rfl rfl rfl (by rw [hx_x2]; exact vecC_get (Value.int .i64) hl_x2) (by kernel_rfl) hp) hb.2.1) ?_
      refine D.on_pure (D.GO_refl _ _) [(0, .slice (some ⟨a0_b, 0, none⟩) a0.length a0.length)] (.slice (some ⟨a0_b, 0, none⟩) a0.length a0.length) (fun ac ww hk => (.cons (hk.1.trans (hK.at_ 0 _ rfl)) (.nil _))) ?_
      refine D.on_pure (D.GO_refl _ _) [(23, .int .i64 (IntKind.i64.wrap (ishr .u64 (IntKind.u64.wrap (IntKind.i64.wrap (s1.1 + s1.2))) 1)))] (.int .i64 (IntKind.i64.wrap (ishr .u64 (IntKind.u64.wrap (IntKind.i64.wrap (s1.1 + s1.2))) 1))) (fun ac ww hk => (.cons (hk.1.trans (hK.at_ 23 _ rfl)) (.nil _))) ?_
      refine D.on_det (D.GO_refl _ _) [(165, .slice (some ⟨a0_b, 0, none⟩) a0.length a0.length), (166, .int .i64 (IntKind.i64.wrap (ishr .u64 (IntKind.u64.wrap (IntKind.i64.wrap (s1.1 + s1.2))) 1)))] (.pointer (some ⟨a0_b, j_x3, none⟩)) (fun ac ww hk => (.cons (hk.1) (.cons (hk.2.1) (.nil _)))) (fun ac ww kk hb hKe Post hp => s_indexV (m := (m13.upO none ww)) elT124_1 j_x3 hKe rfl rfl rfl hj_x3 (Nat.lt_of_lt_of_eq hl_x3 rfl) hp) ?_
      refine D.on_det (D.GO_refl _ _) [(167, .pointer (some ⟨a0_b, j_x3, none⟩))] (.int .i64 x3) (fun ac ww hk => (.cons (hk.1) (.nil _))) (fun ac ww kk hb hKe Post hp => (fun hS => s_load hKe hS 1 rfl rfl rfl (by rw [hx_x3]; exact vecC_get (Value.int .i64) hl_x3) (by kernel_rfl) hp) hb.2.1) ?_
      refine D.finO ?_
      intro fr2 m14 hm1 l14 hS2 hF2 hE
      replace hS2 : St _ m m14 [.box a4_0_b #[.slice a4_0_a a4.length a4_0_c] a4_0_T, .box a0_b (vecC (Value.int .i64) a0) a0_T] := hS2
      have hK2 := D.kn_ends [(158, .func (.func 96) #[] #[.pointer (some ⟨a4_0_b, 0, none⟩)]), (159, .slice (some ⟨a0_b, 0, none⟩) a0.length a0.length), (160, .int .i64 (IntKind.i64.wrap ((IntKind.i64.wrap ((IntKind.i64.wrap (ishr .u64 (IntKind.u64.wrap (IntKind.i64.wrap (a1 + a3))) 1)) + a2)) - 1))), (161, .int .i64 (IntKind.i64.wrap (ishr .u64 (IntKind.u64.wrap (IntKind.i64.wrap (s1.1 + s1.2))) 1))), (162, .int .i64 (IntKind.i64.wrap ((IntKind.i64.wrap ((IntKind.i64.wrap ((IntKind.i64.wrap (ishr .u64 (IntKind.u64.wrap (IntKind.i64.wrap (a1 + a3))) 1)) + a2)) - 1)) - (IntKind.i64.wrap (ishr .u64 (IntKind.u64.wrap (IntKind.i64.wrap (s1.1 + s1.2))) 1))))), (163, .pointer (some ⟨a0_b, j_x2, none⟩)), (164, .int .i64 x2), (165, .slice (some ⟨a0_b, 0, none⟩) a0.length a0.length), (166, .int .i64 (IntKind.i64.wrap (ishr .u64 (IntKind.u64.wrap (IntKind.i64.wrap (s1.1 + s1.2))) 1))), (167, .pointer (some ⟨a0_b, j_x3, none⟩)), (168, .int .i64 x3)] hK hE rfl (by kernel_rfl) (.cons (hE.slots 158) (.cons (hE.slots 159) (.cons (hE.slots 160) (.cons (hE.slots 161) (.cons (hE.slots 162) (.cons (hE.slots 163) (.cons (hE.slots 164) (.cons (hE.slots 165) (.cons (hE.slots 166) (.cons (hE.slots 167) (.cons (hE.slots 168) (.nil _))))))))))))
      replace hK2 : Kn 220 fr2 [(158, .func (.func 96) #[] #[.pointer (some ⟨a4_0_b, 0, none⟩)]), (159, .slice (some ⟨a0_b, 0, none⟩) a0.length a0.length), (160, .int .i64 (IntKind.i64.wrap ((IntKind.i64.wrap ((IntKind.i64.wrap (ishr .u64 (IntKind.u64.wrap (IntKind.i64.wrap (a1 + a3))) 1)) + a2)) - 1))), (161, .int .i64 (IntKind.i64.wrap (ishr .u64 (IntKind.u64.wrap (IntKind.i64.wrap (s1.1 + s1.2))) 1))), (162, .int .i64 (IntKind.i64.wrap ((IntKind.i64.wrap ((IntKind.i64.wrap ((IntKind.i64.wrap (ishr .u64 (IntKind.u64.wrap (IntKind.i64.wrap (a1 + a3))) 1)) + a2)) - 1)) - (IntKind.i64.wrap (ishr .u64 (IntKind.u64.wrap (IntKind.i64.wrap (s1.1 + s1.2))) 1))))), (163, .pointer (some ⟨a0_b, j_x2, none⟩)), (164, .int .i64 x2), (165, .slice (some ⟨a0_b, 0, none⟩) a0.length a0.length), (166, .int .i64 (IntKind.i64.wrap (ishr .u64 (IntKind.u64.wrap (IntKind.i64.wrap (s1.1 + s1.2))) 1))), (167, .pointer (some ⟨a0_b, j_x3, none⟩)), (168, .int .i64 x3), (23, .int .i64 (IntKind.i64.wrap (ishr .u64 (IntKind.u64.wrap (IntKind.i64.wrap (s1.1 + s1.2))) 1))), (157, .int .i64 (IntKind.i64.wrap (ishr .u64 (IntKind.u64.wrap (IntKind.i64.wrap (s1.1 + s1.2))) 1))), (156, .int .u64 (ishr .u64 (IntKind.u64.wrap (IntKind.i64.wrap (s1.1 + s1.2))) 1)), (155, .int .u64 (IntKind.u64.wrap (IntKind.i64.wrap (s1.1 + s1.2)))), (154, .int .i64 (IntKind.i64.wrap (s1.1 + s1.2))), (153, .int .i64 s1.2), (152, .int .i64 s1.1), (151, .bool true), (150, .int .i64 s1.2), (149, .int .i64 s1.1), (0, .slice (some ⟨a0_b, 0, none⟩) a0.length a0.length), (1, .int .i64 a1), (2, .int .i64 a2), (3, .int .i64 a3), (4, .func (.func 96) #[] #[.pointer (some ⟨a4_0_b, 0, none⟩)]), (18, .int .i64 (IntKind.i64.wrap (ishr .u64 (IntKind.u64.wrap (IntKind.i64.wrap (a1 + a3))) 1))), (19, .int .i64 (IntKind.i64.wrap ((IntKind.i64.wrap (ishr .u64 (IntKind.u64.wrap (IntKind.i64.wrap (a1 + a3))) 1)) + a2))), (20, .int .i64 s1.1), (21, .int .i64 s1.2), (22, .int .i64 (IntKind.i64.wrap ((IntKind.i64.wrap ((IntKind.i64.wrap (ishr .u64 (IntKind.u64.wrap (IntKind.i64.wrap (a1 + a3))) 1)) + a2)) - 1)))] := hK2.only [158, 159, 160, 161, 162, 163, 164, 165, 166, 167, 168, 23, 157, 156, 155, 154, 153, 152, 151, 150, 149, 0, 1, 2, 3, 4, 18, 19, 20, 21, 22]
      clear hE hK; revert hK2; clear hm1 hS hlt0; revert fr2; clear fr; intro fr hK; have hS := hS2; clear hS2
      replace hS : St _ m m14 [.box a4_0_b #[.slice a4_0_a a4.length a4_0_c] a4_0_T, .box a0_b (vecC (Value.int .i64) a0) a0_T] := hS
      replace a4_0_f := Els.mono rep_G_Command a4_0_f l14
      obtain ⟨y4, hy6, h⟩ := bind_some h
      replace hS : St _ m m14 [.box a4_0_b #[.slice a4_0_a a4.length a4_0_c] a4_0_T, .box a0_b (vecC (Value.int .i64) a0) a0_T] := hS
      refine qo 169 hK (s_callM (R := [.box a4_0_b #[.slice a4_0_a a4.length a4_0_c] a4_0_T]) (L := [.box a0_b (vecC (Value.int .i64) a0) a0_T]) hK.at_ hS ent96_1 rfl rfl rfl rfl (G.delta_sorted_1_spec a4_0_f hy6 (Ow.left (L := [.box a4_0_b #[.slice a4_0_a a4.length a4_0_c] a4_0_T]) hS.ow)) (by kernel_rfl) ?_)
      clear hK fr hS; rintro _ m15 _ l15 hS ⟨rfl, rfl⟩ fr hK
      replace hS : St _ m m15 [.box a4_0_b #[.slice a4_0_a a4.length a4_0_c] a4_0_T, .box a0_b (vecC (Value.int .i64) a0) a0_T] := hS
      refine qp 170 (.bool (decide (y4 < 0))) hK fun fr hK => ?_
      refine qp 171 (.bool (!decide (y4 < 0))) hK fun fr hK => ?_
      refine wpListIn_nil (then_n ?_)
      refine w_cond hK rfl (fun hb8 => ?_) (fun hb8 => ?_)
      ·
       replace hK := hK.more (t := 171) (v' := .bool true) rfl (by rw [hb8])
       replace h := ite_t ((Bool.not_eq_true' _).mp hb8) h
       refine w_region ?_
       refine qp 172 (.int .i64 (IntKind.i64.wrap (ishr .u64 (IntKind.u64.wrap (IntKind.i64.wrap (s1.1 + s1.2))) 1))) hK fun fr hK => ?_
       refine qp 173 (.int .i64 (IntKind.i64.wrap ((IntKind.i64.wrap (ishr .u64 (IntKind.u64.wrap (IntKind.i64.wrap (s1.1 + s1.2))) 1)) + 1))) hK fun fr hK => ?_
       refine qp 20 (.int .i64 (IntKind.i64.wrap ((IntKind.i64.wrap (ishr .u64 (IntKind.u64.wrap (IntKind.i64.wrap (s1.1 + s1.2))) 1)) + 1))) hK fun fr hK => ?_
       refine wpListIn_nil ?_
       refine blk_n ?_
       refine then_n ?_
       replace hS := hS.front 1 rfl
       replace hS := hS.front 1 rfl
       replace hS : St _ m m15 [.box a4_0_b #[.slice a4_0_a a4.length a4_0_c] a4_0_T, .box a0_b (vecC (Value.int .i64) a0) a0_T] := hS
       replace h := Option.some.inj h; subst h
       obtain ⟨kq, hk1, hk2⟩ := hn1
       exact ⟨kq, hk1, _, hk2, m15, rfl, hK.only [0, 1, 2, 3, 4, 18, 19, 20, 21, 22], l13.trans (l14.trans l15), hS⟩
      ·
       replace hK := hK.more (t := 171) (v' := .bool false) rfl (by rw [hb8])
       replace h := ite_f (not_false_of ((Bool.not_eq_false' _).mp hb8)) h
       refine w_region ?_
       refine qp 174 (.int .i64 (IntKind.i64.wrap (ishr .u64 (IntKind.u64.wrap (IntKind.i64.wrap (s1.1 + s1.2))) 1))) hK fun fr hK => ?_
       refine qp 21 (.int .i64 (IntKind.i64.wrap (ishr .u64 (IntKind.u64.wrap (IntKind.i64.wrap (s1.1 + s1.2))) 1))) hK fun fr hK => ?_
       refine wpListIn_nil ?_
       refine blk_n ?_
       refine then_n ?_
       replace hS := hS.front 1 rfl
       replace hS := hS.front 1 rfl
       replace hS : St _ m m15 [.box a4_0_b #[.slice a4_0_a a4.length a4_0_c] a4_0_T, .box a0_b (vecC (Value.int .i64) a0) a0_T] := hS
       replace h := Option.some.inj h; subst h
       obtain ⟨kq, hk1, hk2⟩ := hn1
       exact ⟨kq, hk1, _, hk2, m15, rfl, hK.only [0, 1, 2, 3, 4, 18, 19, 20, 21, 22], l13.trans (l14.trans l15), hS⟩
     ·
      replace hK := hK.more (t := 151) (v' := .bool false) rfl (by rw [hb7])
      replace h := ite_f (of_decide_eq_false hb7) h
      refine wpIn_exit ?_
      refine then_x ?_
      refine then_x ?_
      refine blk_e ?_
      refine then_n ?_
      replace hS := hS.front 1 rfl
      replace hS := hS.front 1 rfl
      replace hS : St _ m m13 [.box a4_0_b #[.slice a4_0_a a4.length a4_0_c] a4_0_T, .box a0_b (vecC (Value.int .i64) a0) a0_T] := hS
      replace h := Option.some.inj h; subst h
      replace h := Option.some.inj (loop_out hn1); subst h
      exact ⟨m13, rfl, hK.only [0, 1, 2, 3, 4, 18, 19, 20], l13, hS⟩
   ·
    replace h := hv3; clear hv3
    refine w_cond hK rfl (fun hb9 => ?_) (fun hb9 => ?_)
    ·
     replace hK := hK.more (t := 140) (v' := .bool true) rfl (by rw [hb9])
     replace h := ite_t (of_decide_eq_true hb9) h
     refine w_seq (w_region ?_)
     refine qp 141 (.int .i64 (IntKind.i64.wrap ((IntKind.i64.wrap (ishr .u64 (IntKind.u64.wrap (IntKind.i64.wrap (a1 + a3))) 1)) + a2))) hK fun fr hK => ?_
     refine qp 142 (.int .i64 a3) hK fun fr hK => ?_
     refine qp 143 (.int .i64 (IntKind.i64.wrap ((IntKind.i64.wrap ((IntKind.i64.wrap (ishr .u64 (IntKind.u64.wrap (IntKind.i64.wrap (a1 + a3))) 1)) + a2)) - a3))) hK fun fr hK => ?_
     refine qp 20 (.int .i64 (IntKind.i64.wrap ((IntKind.i64.wrap ((IntKind.i64.wrap (ishr .u64 (IntKind.u64.wrap (IntKind.i64.wrap (a1 + a3))) 1)) + a2)) - a3))) hK fun fr hK => ?_
     refine wpListIn_nil (then_n ?_)
     refine w_region ?_
     refine qp 144 (.int .i64 (IntKind.i64.wrap (ishr .u64 (IntKind.u64.wrap (IntKind.i64.wrap (a1 + a3))) 1))) hK fun fr hK => ?_
     refine qp 21 (.int .i64 (IntKind.i64.wrap (ishr .u64 (IntKind.u64.wrap (IntKind.i64.wrap (a1 + a3))) 1))) hK fun fr hK => ?_
     refine wpListIn_nil (then_n ?_)
     replace hS := hS.front 1 rfl
     replace hS := hS.front 1 rfl
     replace hS : St _ m m2 [.box a4_0_b #[.slice a4_0_a a4.length a4_0_c] a4_0_T, .box a0_b (vecC (Value.int .i64) a0) a0_T] := hS
     replace h := Option.some.inj h; subst h
     exact ⟨m2, rfl, hK.only [0, 1, 2, 3, 4, 18, 19, 20, 21], Le.refl _, hS⟩
    ·
     replace hK := hK.more (t := 140) (v' := .bool false) rfl (by rw [hb9])
     replace h := ite_f (of_decide_eq_false hb9) h
     refine w_seq (w_region ?_)
     refine qp 145 (.int .i64 a1) hK fun fr hK => ?_
     refine qp 20 (.int .i64 a1) hK fun fr hK => ?_
     refine wpListIn_nil (then_n ?_)
     refine w_region ?_
     refine qp 146 (.int .i64 a2) hK fun fr hK => ?_
     refine qp 21 (.int .i64 a2) hK fun fr hK => ?_
     refine wpListIn_nil (then_n ?_)
     replace hS := hS.front 1 rfl
     replace hS := hS.front 1 rfl
     replace hS : St _ m m2 [.box a4_0_b #[.slice a4_0_a a4.length a4_0_c] a4_0_T, .box a0_b (vecC (Value.int .i64) a0) a0_T] := hS
     replace h := Option.some.inj h; subst h
     exact ⟨m2, rfl, hK.only [0, 1, 2, 3, 4, 18, 19, 20, 21], Le.refl _, hS⟩
  ·
   have h := hv2; clear hv2
   refine w_cond hK rfl (fun hb10 => ?_) (fun hb10 => ?_)
   ·
    replace hK := hK.more (t := 80) (v' := .bool true) rfl (by rw [hb10])
    replace h := ite_t (eq_of_beq hb10) h
    refine w_seq (w_region ?_)
    refine qp 81 (.int .i64 a1) hK fun fr hK => ?_
    refine qp 14 (.int .i64 a1) hK fun fr hK => ?_
    refine wpListIn_nil (then_n ?_)
    refine w_seq (w_region ?_)
    refine qp 82 (.int .i64 a2) hK fun fr hK => ?_
    refine qp 15 (.int .i64 a2) hK fun fr hK => ?_
    refine wpListIn_nil (then_n ?_)
    refine w_seq ?_
    obtain ⟨v10, hv10, h⟩ := bind_some h
    refine w_join (fun fr ww => ∃ m16 : Mem, m16.w = ww ∧ Kn 220 fr [(0, .slice (some ⟨a0_b, 0, none⟩) a0.length a0.length), (2, .int .i64 a2), (14, .int .i64 v10)] ∧ Le m1 m16 ∧ St (blocksOf [.box a0_b (vecC (Value.int .i64) a0) a0_T, .box a4_0_b #[.slice a4_0_a a4.length a4_0_c] a4_0_T]) m m16 [.box a4_0_b #[.slice a4_0_a a4.length a4_0_c] a4_0_T, .box a0_b (vecC (Value.int .i64) a0) a0_T]) ?_ ?_
    ·
     clear hK hS fr hv10
     rintro fr _ ⟨m16, rfl, hK, l16, hS⟩
     refine then_n ?_
     refine w_seq ?_
     refine w_seq (w_region ?_)
     refine qp 107 (.int .i64 a2) hK fun fr hK => ?_
     refine qp 17 (.int .i64 a2) hK fun fr hK => ?_
     refine wpListIn_nil (then_n ?_)
     refine wpIn_block ?_
     replace hS := hS.front 1 rfl
     replace hS := hS.front 1 rfl
     replace hS : St _ m m16 [.box a4_0_b #[.slice a4_0_a a4.length a4_0_c] a4_0_T, .box a0_b (vecC (Value.int .i64) a0) a0_T] := hS
     refine w_loopL h (fun (s2 : Int × (List Int)) fr ww => ∃ m17 : Mem, m17.w = ww ∧ Kn 220 fr [(0, .slice (some ⟨a0_b, 0, none⟩) a0.length a0.length), (14, .int .i64 v10), (17, .int .i64 s2.1)] ∧ Le m16 m17 ∧ St (blocksOf [.box a0_b (vecC (Value.int .i64) a0) a0_T, .box a4_0_b #[.slice a4_0_a a4.length a4_0_c] a4_0_T]) m m17 [.box a4_0_b #[.slice a4_0_a a4.length a4_0_c] a4_0_T, .box a0_b (vecC (Value.int .i64) s2.2) a0_T] ∧ s2.2.length = a0.length) ?_ ?_
     · exact ⟨m16, rfl, hK.only [0, 14, 17], Le.refl _, hS, rfl⟩
     clear hK hS fr h
     rintro k2 s2 x4 fr _ ⟨m17, rfl, hK, l17, hS, hq3⟩ h hn2
     unfold G.slices_symMergeCmpFunc_int_v0_delta_sorted_1_l2 at h
     refine w_seq ?_
     refine w_seq (w_region ?_)
     refine qp 108 (.int .i64 s2.1) hK fun fr hK => ?_
     refine qp 109 (.int .i64 v10) hK fun fr hK => ?_
     refine qp 110 (.bool (decide (s2.1 > v10))) hK fun fr hK => ?_
     refine wpListIn_nil (then_n ?_)
     refine w_cond hK rfl (fun hb11 => ?_) (fun hb11 => ?_)
     ·
      replace hK := hK.more (t := 110) (v' := .bool true) rfl (by rw [hb11])
      replace h := ite_t (of_decide_eq_true hb11) h
      refine wpIn_skip ?_
      refine then_n ?_
      refine w_seq ?_
      refine wpIn_block ?_
      replace a4_0_f := Els.mono rep_G_Command a4_0_f (l1.trans (l16.trans l17))
      replace hS := hS.front 1 rfl
      obtain ⟨x5, hy7, h⟩ := bind_some h
      obtain ⟨j_x5, hj_x5, hl_x5, hx_x5⟩ := idx_ok hy7
      obtain ⟨x6, hy8, h⟩ := bind_some h
      obtain ⟨j_x6, hj_x6, hl_x6, hx_x6⟩ := idx_ok hy8
      obtain ⟨x7, hy9, h⟩ := bind_some h
      obtain ⟨j_x7, hj_x7, hl_x7, hx_x7⟩ := idx_ok hy9
      have hz1 : j_x7 = s2.1.toNat := by rw [hj_x7]; rfl
      have hz2 : (s2.2.set s2.1.toNat x5).length = a0.length := (List.length_set ..).trans hq3
      have hm0 : ∀ p ∈ ([(fun _ A _ => A = [.box a0_b (vecC (Value.int .i64) s2.2) a0_T]), (fun l A M => A = [.box a0_b (vecC (Value.int .i64) (s2.2.set s2.1.toNat x5)) a0_T])] : List D.Stage), D.MonoP p := D.allP_cons (fun _ _ _ _ h _ => h) (D.allP_cons (fun _ _ _ _ h _ => h) (D.allP_nil))
      have hCm := D.C1_mono [.box a4_0_b #[.slice a4_0_a a4.length a4_0_c] a4_0_T] hm0
      refine D.wp_drawM (m0 := m17) 16 [[15]] [([(0, none)], [(0, 0)], none), ([(17, none)], [(0, 0)], none), ([(0, none)], [(0, 1)], none), ([(17, none)], [(0, 1)], none), ([(116, some 0)], [(0, 1)], none), ([(0, none)], [(0, 0)], none), ([(17, none)], [(0, 0)], none), ([(119, some 0)], [(0, 0)], none), ([(118, some 2), (120, some 0)], [(0, 0)], none), ([(121, some 0)], [(0, 0)], none), ([(0, none)], [(0, 0)], none), ([(17, none)], [(0, 0)], none), ([(123, some 1), (124, some 0)], [(0, 0)], none), ([(125, some 0)], [(0, 0)], none), ([(113, some 13), (114, some 12)], [(0, 0)], none), ([(127, some 0), (122, some 5)], [(0, 0)], some 0)] (D.SM m17 m (blocksOf [.box a0_b (vecC (Value.int .i64) a0) a0_T, .box a4_0_b #[.slice a4_0_a a4.length a4_0_c] a4_0_T]) (D.C1 [(fun _ A _ => A = [.box a0_b (vecC (Value.int .i64) s2.2) a0_T]), (fun l A M => A = [.box a0_b (vecC (Value.int .i64) (s2.2.set s2.1.toNat x5)) a0_T])] [.box a4_0_b #[.slice a4_0_a a4.length a4_0_c] a4_0_T])) hK.size (by kernel_rfl) (by kernel_rfl) (by kernel_rfl) (D.start1 hS (fun _ => rfl)) ?_
      refine D.onP [(0, .slice (some ⟨a0_b, 0, none⟩) a0.length a0.length)] (.slice (some ⟨a0_b, 0, none⟩) a0.length a0.length) (fun ac MM hk => (.cons (hk.1.trans (hK.at_ 0 _ rfl)) (.nil _))) ?_
      refine D.onP [(17, .int .i64 s2.1)] (.int .i64 s2.1) (fun ac MM hk => (.cons (hk.1.trans (hK.at_ 17 _ rfl)) (.nil _))) ?_
      refine D.onP [(0, .slice (some ⟨a0_b, 0, none⟩) a0.length a0.length)] (.slice (some ⟨a0_b, 0, none⟩) a0.length a0.length) (fun ac MM hk => (.cons (hk.1.trans (hK.at_ 0 _ rfl)) (.nil _))) ?_
      refine D.onP [(17, .int .i64 s2.1)] (.int .i64 s2.1) (fun ac MM hk => (.cons (hk.1.trans (hK.at_ 17 _ rfl)) (.nil _))) ?_
      refine D.onP [(116, .int .i64 s2.1)] (.int .i64 (IntKind.i64.wrap (s2.1 - 1))) (fun ac MM hk => (.cons (hk.1) (.nil _))) ?_
      refine D.onP [(0, .slice (some ⟨a0_b, 0, none⟩) a0.length a0.length)] (.slice (some ⟨a0_b, 0, none⟩) a0.length a0.length) (fun ac MM hk => (.cons (hk.1.trans (hK.at_ 0 _ rfl)) (.nil _))) ?_
      refine D.onP [(17, .int .i64 s2.1)] (.int .i64 s2.1) (fun ac MM hk => (.cons (hk.1.trans (hK.at_ 17 _ rfl)) (.nil _))) ?_
      refine D.onP [(119, .int .i64 s2.1)] (.int .i64 (IntKind.i64.wrap (s2.1 - 1))) (fun ac MM hk => (.cons (hk.1) (.nil _))) ?_
      refine D.onD [(118, .slice (some ⟨a0_b, 0, none⟩) a0.length a0.length), (120, .int .i64 (IntKind.i64.wrap (s2.1 - 1)))] (.pointer (some ⟨a0_b, j_x5, none⟩)) (fun ac MM hk => (.cons (hk.1) (.cons (hk.2.1) (.nil _)))) (fun ac MM vs hbd hS hKe Post hp => s_indexV (m := MM) elT124_1 j_x5 hKe rfl rfl rfl hj_x5 (Nat.lt_of_lt_of_eq hl_x5 hq3) hp) ?_
      refine D.onA (fun uu _ => uu = .int .i64 x5) (fun _ _ _ h _ => h) (by
       intro ac MM vs hbd hcor hS00 hk; have hS0 := hS00
       obtain ⟨hle, LL, hC, hSt⟩ := hS0
       have hSt0 := hSt
       have hC0 := hC; obtain ⟨A0, h0, rfl⟩ := hC
       have hn := D.bd_eq hbd 0 0 rfl
       obtain rfl := D.CH.at h0 hn rfl
       replace hSt := hSt
       have k121 : ac.eval (.tmp 121) = .pointer (some ⟨a0_b, j_x5, none⟩) := hk.1
       have hKe : Ke ac [(121, .pointer (some ⟨a0_b, j_x5, none⟩))] := (.cons k121 (.nil _))
       have hS := hSt
       exact ⟨D.wanted0 rfl, s_load hKe hS 0 rfl rfl rfl (by rw [hx_x5]; exact vecC_get (Value.int .i64) hl_x5) (by kernel_rfl) ⟨MM, rfl, Le.refl _, rfl, hS00⟩⟩) ?_
      refine D.onP [(0, .slice (some ⟨a0_b, 0, none⟩) a0.length a0.length)] (.slice (some ⟨a0_b, 0, none⟩) a0.length a0.length) (fun ac MM hk => (.cons (hk.1.trans (hK.at_ 0 _ rfl)) (.nil _))) ?_
      refine D.onP [(17, .int .i64 s2.1)] (.int .i64 s2.1) (fun ac MM hk => (.cons (hk.1.trans (hK.at_ 17 _ rfl)) (.nil _))) ?_
      refine D.onD [(123, .slice (some ⟨a0_b, 0, none⟩) a0.length a0.length), (124, .int .i64 s2.1)] (.pointer (some ⟨a0_b, j_x6, none⟩)) (fun ac MM hk => (.cons (hk.1) (.cons (hk.2.1) (.nil _)))) (fun ac MM vs hbd hS hKe Post hp => s_indexV (m := MM) elT124_1 j_x6 hKe rfl rfl rfl hj_x6 (Nat.lt_of_lt_of_eq hl_x6 hq3) hp) ?_
      refine D.onA (fun uu _ => uu = .int .i64 x6) (fun _ _ _ h _ => h) (by
       intro ac MM vs hbd hcor hS00 hk; have hS0 := hS00
       obtain ⟨hle, LL, hC, hSt⟩ := hS0
       have hSt0 := hSt
       have hC0 := hC; obtain ⟨A0, h0, rfl⟩ := hC
       have hn := D.bd_eq hbd 0 0 rfl
       obtain rfl := D.CH.at h0 hn rfl
       replace hSt := hSt
       have k125 : ac.eval (.tmp 125) = .pointer (some ⟨a0_b, j_x6, none⟩) := hk.1
       have hKe : Ke ac [(125, .pointer (some ⟨a0_b, j_x6, none⟩))] := (.cons k125 (.nil _))
       have hS := hSt
       exact ⟨D.wanted0 rfl, s_load hKe hS 0 rfl rfl rfl (by rw [hx_x6]; exact vecC_get (Value.int .i64) hl_x6) (by kernel_rfl) ⟨MM, rfl, Le.refl _, rfl, hS00⟩⟩) ?_
      refine D.onD [(113, .slice (some ⟨a0_b, 0, none⟩) a0.length a0.length), (114, .int .i64 s2.1)] (.pointer (some ⟨a0_b, j_x7, none⟩)) (fun ac MM hk => (.cons (hk.1) (.cons (hk.2.1) (.nil _)))) (fun ac MM vs hbd hS hKe Post hp => s_indexV (m := MM) elT124_1 j_x7 hKe rfl rfl rfl hj_x7 (Nat.lt_of_lt_of_eq hl_x7 hq3) hp) ?_
      refine D.onA (fun _ _ => True) (fun _ _ _ h _ => h) (by
       intro ac MM vs hbd hcor hS00 hk; have hS0 := hS00
       obtain ⟨hle, LL, hC, hSt⟩ := hS0
       have hSt0 := hSt
       have hC0 := hC; obtain ⟨A0, h0, rfl⟩ := hC
       have hn := D.bd_eq hbd 0 0 rfl
       obtain rfl := D.CH.at h0 hn rfl
       replace hSt := hSt
       have k127 : ac.eval (.tmp 127) = .pointer (some ⟨a0_b, j_x7, none⟩) := hk.1
       have k122 : ac.eval (.tmp 122) = .int .i64 x5 := hk.2.1
       have hKe : Ke ac [(127, .pointer (some ⟨a0_b, j_x7, none⟩)), (122, .int .i64 x5)] := (.cons k127 (.cons k122 (.nil _)))
       exact ⟨D.wanted0 rfl, s_storeV (Value.int .i64) (l := s2.2) (j := j_x7) x5 hKe 0 hSt rfl rfl rfl rfl (by kernel_rfl) rfl hl_x7 (by
         intro M2 l2 hS2; rw [hz1] at hS2
         exact ⟨M2, rfl, l2, trivial, hle.trans l2, _, ⟨_, D.CH.push hn rfl rfl, rfl⟩, hS2⟩)⟩) ?_
      intro fr2 m18 vs hlen hcor hS2 hE; obtain ⟨l18, LL, hC, hS2⟩ := hS2
      obtain ⟨A0, h0, rfl⟩ := hC
      obtain ⟨rfl⟩ := D.CH.at h0 (hlen 0) rfl
      replace hS2 : St _ m m18 [.box a0_b (vecC (Value.int .i64) (s2.2.set s2.1.toNat x5)) a0_T, .box a4_0_b #[.slice a4_0_a a4.length a4_0_c] a4_0_T] := hS2
      have hK2 := D.kn_endsM [(113, .slice (some ⟨a0_b, 0, none⟩) a0.length a0.length), (114, .int .i64 s2.1), (115, .slice (some ⟨a0_b, 0, none⟩) a0.length a0.length), (116, .int .i64 s2.1), (117, .int .i64 (IntKind.i64.wrap (s2.1 - 1))), (118, .slice (some ⟨a0_b, 0, none⟩) a0.length a0.length), (119, .int .i64 s2.1), (120, .int .i64 (IntKind.i64.wrap (s2.1 - 1))), (121, .pointer (some ⟨a0_b, j_x5, none⟩)), (122, .int .i64 x5), (123, .slice (some ⟨a0_b, 0, none⟩) a0.length a0.length), (124, .int .i64 s2.1), (125, .pointer (some ⟨a0_b, j_x6, none⟩)), (126, .int .i64 x6), (127, .pointer (some ⟨a0_b, j_x7, none⟩))] hK hE rfl (by kernel_rfl) (.cons (hE.slots 113) (.cons (hE.slots 114) (.cons (hE.slots 115) (.cons (hE.slots 116) (.cons (hE.slots 117) (.cons (hE.slots 118) (.cons (hE.slots 119) (.cons (hE.slots 120) (.cons (hE.slots 121) (.cons (hE.slots 122) (.cons (hE.slots 123) (.cons (hE.slots 124) (.cons (hE.slots 125) (.cons (hE.slots 126) (.cons (hE.slots 127) (.nil _))))))))))))))))
      replace hK2 : Kn 220 fr2 [(113, .slice (some ⟨a0_b, 0, none⟩) a0.length a0.length), (114, .int .i64 s2.1), (115, .slice (some ⟨a0_b, 0, none⟩) a0.length a0.length), (116, .int .i64 s2.1), (117, .int .i64 (IntKind.i64.wrap (s2.1 - 1))), (118, .slice (some ⟨a0_b, 0, none⟩) a0.length a0.length), (119, .int .i64 s2.1), (120, .int .i64 (IntKind.i64.wrap (s2.1 - 1))), (121, .pointer (some ⟨a0_b, j_x5, none⟩)), (122, .int .i64 x5), (123, .slice (some ⟨a0_b, 0, none⟩) a0.length a0.length), (124, .int .i64 s2.1), (125, .pointer (some ⟨a0_b, j_x6, none⟩)), (126, .int .i64 x6), (127, .pointer (some ⟨a0_b, j_x7, none⟩)), (110, .bool true), (109, .int .i64 v10), (108, .int .i64 s2.1), (0, .slice (some ⟨a0_b, 0, none⟩) a0.length a0.length), (14, .int .i64 v10), (17, .int .i64 s2.1)] := hK2.only [113, 114, 115, 116, 117, 118, 119, 120, 121, 122, 123, 124, 125, 126, 127, 110, 109, 108, 0, 14, 17]
      clear hE hK hcor hlen h0; revert hK2; clear hS; revert fr2; clear fr; intro fr hK; have hS := hS2; clear hS2 hCm hm0
      replace hS : St _ m m18 [.box a0_b (vecC (Value.int .i64) (s2.2.set s2.1.toNat x5)) a0_T, .box a4_0_b #[.slice a4_0_a a4.length a4_0_c] a4_0_T] := hS
      obtain ⟨x8, hy10, h⟩ := bind_some h
      obtain ⟨j1, hj1, hl1, hx1⟩ := idx_ok hy10
      refine qo 128 hK (s_indexV elT124_1 j1 hK.at_ rfl rfl rfl hj1 (Nat.lt_of_lt_of_eq hl1 hz2) ?_)
      clear hK fr; intro fr hK
      refine qo0 hK (s_storeV (Value.int .i64) (l := (s2.2.set s2.1.toNat x5)) (j := j1) x6 hK.at_ 0 hS rfl rfl rfl rfl (by kernel_rfl) rfl hl1 ?_)
      clear hK fr hS; intro m19 l19 hS fr hK
      have hz3 : j1 = (IntKind.i64.wrap (s2.1 - 1)).toNat := by rw [hj1]; rfl
      have hz4 : ((s2.2.set s2.1.toNat x5).set (IntKind.i64.wrap (s2.1 - 1)).toNat x6).length = a0.length := (List.length_set ..).trans hz2
      replace hS : St (blocksOf [.box a0_b (vecC (Value.int .i64) a0) a0_T, .box a4_0_b #[.slice a4_0_a a4.length a4_0_c] a4_0_T]) m m19 [.box a0_b (vecC (Value.int .i64) ((s2.2.set s2.1.toNat x5).set (IntKind.i64.wrap (s2.1 - 1)).toNat x6)) a0_T, .box a4_0_b #[.slice a4_0_a a4.length a4_0_c] a4_0_T] := by rw [← hz3]; exact hS
      refine wpListIn_nil ?_
      refine blk_n ?_
      refine then_n ?_
      refine w_region ?_
      refine qp 111 (.int .i64 s2.1) hK fun fr hK => ?_
      refine qp 112 (.int .i64 (IntKind.i64.wrap (s2.1 - 1))) hK fun fr hK => ?_
      refine qp 17 (.int .i64 (IntKind.i64.wrap (s2.1 - 1))) hK fun fr hK => ?_
      refine wpListIn_nil (then_n ?_)
      replace hS := hS.front 1 rfl
      replace hS : St _ m m19 [.box a4_0_b #[.slice a4_0_a a4.length a4_0_c] a4_0_T, .box a0_b (vecC (Value.int .i64) ((s2.2.set s2.1.toNat x5).set (IntKind.i64.wrap (s2.1 - 1)).toNat x6)) a0_T] := hS
      replace h := Option.some.inj h; subst h
      obtain ⟨kq, hk1, hk2⟩ := hn2
      exact ⟨kq, hk1, _, hk2, m19, rfl, hK.only [0, 14, 17], l17.trans (l18.trans l19), hS, hz4⟩
     ·
      replace hK := hK.more (t := 110) (v' := .bool false) rfl (by rw [hb11])
      replace h := ite_f (of_decide_eq_false hb11) h
      refine wpIn_exit ?_
      refine then_x ?_
      refine then_x ?_
      refine blk_e ?_
      refine then_n ?_
      refine wpIn_ret ?_
      refine then_r ?_
      refine then_r ?_
      replace h := Option.some.inj h; subst h
      replace h := Option.some.inj (loop_out hn2); subst h
      replace h := Option.some.inj (join_out hk2); subst h
      replace hS := hS.front 1 rfl
      replace hS : St _ m m17 [.box a0_b (vecC (Value.int .i64) s2.2) a0_T, .box a4_0_b #[.slice a4_0_a a4.length a4_0_c] a4_0_T] := hS
      refine ret_of [] [] rfl hK .nil hS ?_
      exact ⟨rfl, rfl, hq3⟩
    ·
     replace h := hv10; clear hv10
     refine wpIn_block ?_
     replace hS := hS.front 1 rfl
     replace hS := hS.front 1 rfl
     replace hS : St _ m m1 [.box a4_0_b #[.slice a4_0_a a4.length a4_0_c] a4_0_T, .box a0_b (vecC (Value.int .i64) a0) a0_T] := hS
     refine w_loopL h (fun (s3 : Int × Int) fr ww => ∃ m20 : Mem, m20.w = ww ∧ Kn 220 fr [(0, .slice (some ⟨a0_b, 0, none⟩) a0.length a0.length), (2, .int .i64 a2), (4, .func (.func 96) #[] #[.pointer (some ⟨a4_0_b, 0, none⟩)]), (14, .int .i64 s3.1), (15, .int .i64 s3.2)] ∧ Le m1 m20 ∧ St (blocksOf [.box a0_b (vecC (Value.int .i64) a0) a0_T, .box a4_0_b #[.slice a4_0_a a4.length a4_0_c] a4_0_T]) m m20 [.box a4_0_b #[.slice a4_0_a a4.length a4_0_c] a4_0_T, .box a0_b (vecC (Value.int .i64) a0) a0_T]) ?_ ?_
     · exact ⟨m1, rfl, hK.only [0, 2, 4, 14, 15], Le.refl _, hS⟩
     clear hK hS fr h
     rintro k3 s3 x9 fr _ ⟨m20, rfl, hK, l20, hS⟩ h hn3
     unfold G.slices_symMergeCmpFunc_int_v0_delta_sorted_1_l3 at h
     refine w_seq ?_
     refine w_seq (w_region ?_)
     refine qp 83 (.int .i64 s3.1) hK fun fr hK => ?_
     refine qp 84 (.int .i64 s3.2) hK fun fr hK => ?_
     refine qp 85 (.bool (decide (s3.1 < s3.2))) hK fun fr hK => ?_
     refine wpListIn_nil (then_n ?_)
     refine w_cond hK rfl (fun hb12 => ?_) (fun hb12 => ?_)
     ·
      replace hK := hK.more (t := 85) (v' := .bool true) rfl (by rw [hb12])
      replace h := ite_t (of_decide_eq_true hb12) h
      refine wpIn_skip ?_
      refine then_n ?_
      refine wpIn_block ?_
      refine w_seq (w_region ?_)
      refine qp 86 (.int .i64 s3.1) hK fun fr hK => ?_
      refine qp 87 (.int .i64 s3.2) hK fun fr hK => ?_
      refine qp 88 (.int .i64 (IntKind.i64.wrap (s3.1 + s3.2))) hK fun fr hK => ?_
      refine qp 89 (.int .u64 (IntKind.u64.wrap (IntKind.i64.wrap (s3.1 + s3.2)))) hK fun fr hK => ?_
      refine qr 90 (.int .u64 (ishr .u64 (IntKind.u64.wrap (IntKind.i64.wrap (s3.1 + s3.2))) 1)) hK (by exact run_shr (by decide) rfl rfl rfl) ?_
      clear hK fr; intro fr hK
      refine qp 91 (.int .i64 (IntKind.i64.wrap (ishr .u64 (IntKind.u64.wrap (IntKind.i64.wrap (s3.1 + s3.2))) 1))) hK fun fr hK => ?_
      refine qp 16 (.int .i64 (IntKind.i64.wrap (ishr .u64 (IntKind.u64.wrap (IntKind.i64.wrap (s3.1 + s3.2))) 1))) hK fun fr hK => ?_
      refine wpListIn_nil (then_n ?_)
      refine w_seq ?_
      replace a4_0_f := Els.mono rep_G_Command a4_0_f (l1.trans l20)
      obtain ⟨x10, hy11, h⟩ := bind_some h
      obtain ⟨j_x10, hj_x10, hl_x10, hx_x10⟩ := idx_ok hy11
      obtain ⟨x11, hy12, h⟩ := bind_some h
      obtain ⟨j_x11, hj_x11, hl_x11, hx_x11⟩ := idx_ok hy12
      have hlt0 : ∀ bq ∈ blocksOf [.box a4_0_b #[.slice a4_0_a a4.length a4_0_c] a4_0_T, .box a0_b (vecC (Value.int .i64) a0) a0_T], bq < m20.w.heap.size := fun bq hbq => hS.ow.lt hbq
      refine D.wp_draw (Gr := D.GO m20 none) (S := D.SO none (blocksOf [.box a0_b (vecC (Value.int .i64) a0) a0_T, .box a4_0_b #[.slice a4_0_a a4.length a4_0_c] a4_0_T]) m m20 (fun _ => [.box a4_0_b #[.slice a4_0_a a4.length a4_0_c] a4_0_T, .box a0_b (vecC (Value.int .i64) a0) a0_T]) (fun _ => True)) (N := 0) 9 [] [([(4, none)], 0, 0, false), ([(0, none)], 0, 0, false), ([(2, none)], 0, 0, false), ([(93, some 1), (94, some 0)], 0, 0, false), ([(95, some 0)], 0, 0, false), ([(0, none)], 0, 0, false), ([(16, none)], 0, 0, false), ([(97, some 1), (98, some 0)], 0, 0, false), ([(99, some 0)], 0, 0, false)] hK.size (by kernel_rfl) (by kernel_rfl) (by kernel_rfl) rfl (D.startO hS trivial) ?_
      refine D.on_pure (D.GO_refl _ _) [(4, .func (.func 96) #[] #[.pointer (some ⟨a4_0_b, 0, none⟩)])] (.func (.func 96) #[] #[.pointer (some ⟨a4_0_b, 0, none⟩)]) (fun ac ww hk => (.cons (hk.1.trans (hK.at_ 4 _ rfl)) (.nil _))) ?_
      refine D.on_pure (D.GO_refl _ _) [(0, .slice (some ⟨a0_b, 0, none⟩) a0.length a0.length)] (.slice (some ⟨a0_b, 0, none⟩) a0.length a0.length) (fun ac ww hk => (.cons (hk.1.trans (hK.at_ 0 _ rfl)) (.nil _))) ?_
      refine D.on_pure (D.GO_refl _ _) [(2, .int .i64 a2)] (.int .i64 a2) (fun ac ww hk => (.cons (hk.1.trans (hK.at_ 2 _ rfl)) (.nil _))) ?_
      refine D.on_det (D.GO_refl _ _) [(93, .slice (some ⟨a0_b, 0, none⟩) a0.length a0.length), (94, .int .i64 a2)] (.pointer (some ⟨a0_b, j_x10, none⟩)) (fun ac ww hk => (.cons (hk.1) (.cons (hk.2.1) (.nil _)))) (fun ac ww kk hb hKe Post hp => s_indexV (m := (m20.upO none ww)) elT124_1 j_x10 hKe rfl rfl rfl hj_x10 (Nat.lt_of_lt_of_eq hl_x10 rfl) hp) ?_
      refine D.on_det (D.GO_refl _ _) [(95, .pointer (some ⟨a0_b, j_x10, none⟩))] (.int .i64 x10) (fun ac ww hk => (.cons (hk.1) (.nil _))) (fun ac ww kk hb hKe Post hp => (fun hS => s_load hKe hS 1 rfl rfl rfl (by rw [hx_x10]; exact vecC_get (Value.int .i64) hl_x10) (by kernel_rfl) hp) hb.2.1) ?_
      refine D.on_pure (D.GO_refl _ _) [(0, .slice (some ⟨a0_b, 0, none⟩) a0.length a0.length)] (.slice (some ⟨a0_b, 0, none⟩) a0.length a0.length) (fun ac ww hk => (.cons (hk.1.trans (hK.at_ 0 _ rfl)) (.nil _))) ?_
      refine D.on_pure (D.GO_refl _ _) [(16, .int .i64 (IntKind.i64.wrap (ishr .u64 (IntKind.u64.wrap (IntKind.i64.wrap (s3.1 + s3.2))) 1)))] (.int .i64 (IntKind.i64.wrap (ishr .u64 (IntKind.u64.wrap (IntKind.i64.wrap (s3.1 + s3.2))) 1))) (fun ac ww hk => (.cons (hk.1.trans (hK.at_ 16 _ rfl)) (.nil _))) ?_
      refine D.on_det (D.GO_refl _ _) [(97, .slice (some ⟨a0_b, 0, none⟩) a0.length a0.length), (98, .int .i64 (IntKind.i64.wrap (ishr .u64 (IntKind.u64.wrap (IntKind.i64.wrap (s3.1 + s3.2))) 1)))] (.pointer (some ⟨a0_b, j_x11, none⟩)) (fun ac ww hk => (.cons (hk.1) (.cons (hk.2.1) (.nil _)))) (fun ac ww kk hb hKe Post hp => s_indexV (m := (m20.upO none ww)) elT124_1 j_x11 hKe rfl rfl rfl hj_x11 (Nat.lt_of_lt_of_eq hl_x11 rfl) hp) ?_
      refine D.on_det (D.GO_refl _ _) [(99, .pointer (some ⟨a0_b, j_x11, none⟩))] (.int .i64 x11) (fun ac ww hk => (.cons (hk.1) (.nil _))) (fun ac ww kk hb hKe Post hp => (fun hS => s_load hKe hS 1 rfl rfl rfl (by rw [hx_x11]; exact vecC_get (Value.int .i64) hl_x11) (by kernel_rfl) hp) hb.2.1) ?_
      refine D.finO ?_
      intro fr2 m21 hm1 l21 hS2 hF2 hE
      replace hS2 : St _ m m21 [.box a4_0_b #[.slice a4_0_a a4.length a4_0_c] a4_0_T, .box a0_b (vecC (Value.int .i64) a0) a0_T] := hS2
      have hK2 := D.kn_ends [(92, .func (.func 96) #[] #[.pointer (some ⟨a4_0_b, 0, none⟩)]), (93, .slice (some ⟨a0_b, 0, none⟩) a0.length a0.length), (94, .int .i64 a2), (95, .pointer (some ⟨a0_b, j_x10, none⟩)), (96, .int .i64 x10), (97, .slice (some ⟨a0_b, 0, none⟩) a0.length a0.length), (98, .int .i64 (IntKind.i64.wrap (ishr .u64 (IntKind.u64.wrap (IntKind.i64.wrap (s3.1 + s3.2))) 1))), (99, .pointer (some ⟨a0_b, j_x11, none⟩)), (100, .int .i64 x11)] hK hE rfl (by kernel_rfl) (.cons (hE.slots 92) (.cons (hE.slots 93) (.cons (hE.slots 94) (.cons (hE.slots 95) (.cons (hE.slots 96) (.cons (hE.slots 97) (.cons (hE.slots 98) (.cons (hE.slots 99) (.cons (hE.slots 100) (.nil _))))))))))
      replace hK2 : Kn 220 fr2 [(92, .func (.func 96) #[] #[.pointer (some ⟨a4_0_b, 0, none⟩)]), (93, .slice (some ⟨a0_b, 0, none⟩) a0.length a0.length), (94, .int .i64 a2), (95, .pointer (some ⟨a0_b, j_x10, none⟩)), (96, .int .i64 x10), (97, .slice (some ⟨a0_b, 0, none⟩) a0.length a0.length), (98, .int .i64 (IntKind.i64.wrap (ishr .u64 (IntKind.u64.wrap (IntKind.i64.wrap (s3.1 + s3.2))) 1))), (99, .pointer (some ⟨a0_b, j_x11, none⟩)), (100, .int .i64 x11), (16, .int .i64 (IntKind.i64.wrap (ishr .u64 (IntKind.u64.wrap (IntKind.i64.wrap (s3.1 + s3.2))) 1))), (91, .int .i64 (IntKind.i64.wrap (ishr .u64 (IntKind.u64.wrap (IntKind.i64.wrap (s3.1 + s3.2))) 1))), (90, .int .u64 (ishr .u64 (IntKind.u64.wrap (IntKind.i64.wrap (s3.1 + s3.2))) 1)), (89, .int .u64 (IntKind.u64.wrap (IntKind.i64.wrap (s3.1 + s3.2)))), (88, .int .i64 (IntKind.i64.wrap (s3.1 + s3.2))), (87, .int .i64 s3.2), (86, .int .i64 s3.1), (85, .bool true), (84, .int .i64 s3.2), (83, .int .i64 s3.1), (0, .slice (some ⟨a0_b, 0, none⟩) a0.length a0.length), (2, .int .i64 a2), (4, .func (.func 96) #[] #[.pointer (some ⟨a4_0_b, 0, none⟩)]), (14, .int .i64 s3.1), (15, .int .i64 s3.2)] := hK2.only [92, 93, 94, 95, 96, 97, 98, 99, 100, 16, 91, 90, 89, 88, 87, 86, 85, 84, 83, 0, 2, 4, 14, 15]
      clear hE hK; revert hK2; clear hm1 hS hlt0; revert fr2; clear fr; intro fr hK; have hS := hS2; clear hS2
      replace hS : St _ m m21 [.box a4_0_b #[.slice a4_0_a a4.length a4_0_c] a4_0_T, .box a0_b (vecC (Value.int .i64) a0) a0_T] := hS
      replace a4_0_f := Els.mono rep_G_Command a4_0_f l21
      obtain ⟨y5, hy13, h⟩ := bind_some h
      replace hS : St _ m m21 [.box a4_0_b #[.slice a4_0_a a4.length a4_0_c] a4_0_T, .box a0_b (vecC (Value.int .i64) a0) a0_T] := hS
      refine qo 101 hK (s_callM (R := [.box a4_0_b #[.slice a4_0_a a4.length a4_0_c] a4_0_T]) (L := [.box a0_b (vecC (Value.int .i64) a0) a0_T]) hK.at_ hS ent96_1 rfl rfl rfl rfl (G.delta_sorted_1_spec a4_0_f hy13 (Ow.left (L := [.box a4_0_b #[.slice a4_0_a a4.length a4_0_c] a4_0_T]) hS.ow)) (by kernel_rfl) ?_)
      clear hK fr hS; rintro _ m22 _ l22 hS ⟨rfl, rfl⟩ fr hK
      replace hS : St _ m m22 [.box a4_0_b #[.slice a4_0_a a4.length a4_0_c] a4_0_T, .box a0_b (vecC (Value.int .i64) a0) a0_T] := hS
      refine qp 102 (.bool (decide (y5 < 0))) hK fun fr hK => ?_
      refine qp 103 (.bool (!decide (y5 < 0))) hK fun fr hK => ?_
      refine wpListIn_nil (then_n ?_)
      refine w_cond hK rfl (fun hb13 => ?_) (fun hb13 => ?_)
      ·
       replace hK := hK.more (t := 103) (v' := .bool true) rfl (by rw [hb13])
       replace h := ite_t ((Bool.not_eq_true' _).mp hb13) h
       refine w_region ?_
       refine qp 104 (.int .i64 (IntKind.i64.wrap (ishr .u64 (IntKind.u64.wrap (IntKind.i64.wrap (s3.1 + s3.2))) 1))) hK fun fr hK => ?_
       refine qp 105 (.int .i64 (IntKind.i64.wrap ((IntKind.i64.wrap (ishr .u64 (IntKind.u64.wrap (IntKind.i64.wrap (s3.1 + s3.2))) 1)) + 1))) hK fun fr hK => ?_
       refine qp 14 (.int .i64 (IntKind.i64.wrap ((IntKind.i64.wrap (ishr .u64 (IntKind.u64.wrap (IntKind.i64.wrap (s3.1 + s3.2))) 1)) + 1))) hK fun fr hK => ?_
       refine wpListIn_nil ?_
       refine blk_n ?_
       refine then_n ?_
       replace hS := hS.front 1 rfl
       replace hS := hS.front 1 rfl
       replace hS : St _ m m22 [.box a4_0_b #[.slice a4_0_a a4.length a4_0_c] a4_0_T, .box a0_b (vecC (Value.int .i64) a0) a0_T] := hS
       replace h := Option.some.inj h; subst h
       obtain ⟨kq, hk1, hk2⟩ := hn3
       exact ⟨kq, hk1, _, hk2, m22, rfl, hK.only [0, 2, 4, 14, 15], l20.trans (l21.trans l22), hS⟩
      ·
       replace hK := hK.more (t := 103) (v' := .bool false) rfl (by rw [hb13])
       replace h := ite_f (not_false_of ((Bool.not_eq_false' _).mp hb13)) h
       refine w_region ?_
       refine qp 106 (.int .i64 (IntKind.i64.wrap (ishr .u64 (IntKind.u64.wrap (IntKind.i64.wrap (s3.1 + s3.2))) 1))) hK fun fr hK => ?_
       refine qp 15 (.int .i64 (IntKind.i64.wrap (ishr .u64 (IntKind.u64.wrap (IntKind.i64.wrap (s3.1 + s3.2))) 1))) hK fun fr hK => ?_
       refine wpListIn_nil ?_
       refine blk_n ?_
       refine then_n ?_
       replace hS := hS.front 1 rfl
       replace hS := hS.front 1 rfl
       replace hS : St _ m m22 [.box a4_0_b #[.slice a4_0_a a4.length a4_0_c] a4_0_T, .box a0_b (vecC (Value.int .i64) a0) a0_T] := hS
       replace h := Option.some.inj h; subst h
       obtain ⟨kq, hk1, hk2⟩ := hn3
       exact ⟨kq, hk1, _, hk2, m22, rfl, hK.only [0, 2, 4, 14, 15], l20.trans (l21.trans l22), hS⟩
     ·
      replace hK := hK.more (t := 85) (v' := .bool false) rfl (by rw [hb12])
      replace h := ite_f (of_decide_eq_false hb12) h
      refine wpIn_exit ?_
      refine then_x ?_
      refine then_x ?_
      refine blk_e ?_
      refine then_n ?_
      replace hS := hS.front 1 rfl
      replace hS := hS.front 1 rfl
      replace hS : St _ m m20 [.box a4_0_b #[.slice a4_0_a a4.length a4_0_c] a4_0_T, .box a0_b (vecC (Value.int .i64) a0) a0_T] := hS
      replace h := Option.some.inj h; subst h
      replace h := Option.some.inj (loop_out hn3); subst h
      exact ⟨m20, rfl, hK.only [0, 2, 14], l20, hS⟩
   ·
    replace hK := hK.more (t := 80) (v' := .bool false) rfl (by rw [hb10])
    replace h := ite_f (ne_of_beq_false hb10) h
    refine wpIn_skip ?_
    refine then_n ?_
    replace hS := hS.front 1 rfl
    replace hS := hS.front 1 rfl
    replace hS : St _ m m1 [.box a4_0_b #[.slice a4_0_a a4.length a4_0_c] a4_0_T, .box a0_b (vecC (Value.int .i64) a0) a0_T] := hS
    replace h := Option.some.inj h; subst h
    exact ⟨_, rfl, m1, rfl, hK.only [0, 1, 2, 3, 4], Le.refl _, hS⟩
 ·
  have h := hv1; clear hv1
  refine w_cond hK rfl (fun hb14 => ?_) (fun hb14 => ?_)
  ·
   replace hK := hK.more (t := 28) (v' := .bool true) rfl (by rw [hb14])
   replace h := ite_t (eq_of_beq hb14) h
   refine w_seq (w_region ?_)
   refine qp 29 (.int .i64 a2) hK fun fr hK => ?_
   refine qp 10 (.int .i64 a2) hK fun fr hK => ?_
   refine wpListIn_nil (then_n ?_)
   refine w_seq (w_region ?_)
   refine qp 30 (.int .i64 a3) hK fun fr hK => ?_
   refine qp 11 (.int .i64 a3) hK fun fr hK => ?_
   refine wpListIn_nil (then_n ?_)
   refine w_seq ?_
   obtain ⟨v11, hv11, h⟩ := bind_some h
   refine w_join (fun fr ww => ∃ m23 : Mem, m23.w = ww ∧ Kn 220 fr [(0, .slice (some ⟨a0_b, 0, none⟩) a0.length a0.length), (1, .int .i64 a1), (10, .int .i64 v11)] ∧ Le m m23 ∧ St (blocksOf [.box a0_b (vecC (Value.int .i64) a0) a0_T, .box a4_0_b #[.slice a4_0_a a4.length a4_0_c] a4_0_T]) m m23 [.box a4_0_b #[.slice a4_0_a a4.length a4_0_c] a4_0_T, .box a0_b (vecC (Value.int .i64) a0) a0_T]) ?_ ?_
   ·
    clear hK hS fr hv11
    rintro fr _ ⟨m23, rfl, hK, l23, hS⟩
    refine then_n ?_
    refine w_seq ?_
    refine w_seq (w_region ?_)
    refine qp 54 (.int .i64 a1) hK fun fr hK => ?_
    refine qp 13 (.int .i64 a1) hK fun fr hK => ?_
    refine wpListIn_nil (then_n ?_)
    refine wpIn_block ?_
    replace hS := hS.front 1 rfl
    replace hS := hS.front 1 rfl
    replace hS : St _ m m23 [.box a4_0_b #[.slice a4_0_a a4.length a4_0_c] a4_0_T, .box a0_b (vecC (Value.int .i64) a0) a0_T] := hS
    refine w_loopL h (fun (s4 : Int × (List Int)) fr ww => ∃ m24 : Mem, m24.w = ww ∧ Kn 220 fr [(0, .slice (some ⟨a0_b, 0, none⟩) a0.length a0.length), (10, .int .i64 v11), (13, .int .i64 s4.1)] ∧ Le m23 m24 ∧ St (blocksOf [.box a0_b (vecC (Value.int .i64) a0) a0_T, .box a4_0_b #[.slice a4_0_a a4.length a4_0_c] a4_0_T]) m m24 [.box a4_0_b #[.slice a4_0_a a4.length a4_0_c] a4_0_T, .box a0_b (vecC (Value.int .i64) s4.2) a0_T] ∧ s4.2.length = a0.length) ?_ ?_
    · exact ⟨m23, rfl, hK.only [0, 10, 13], Le.refl _, hS, rfl⟩
    clear hK hS fr h
    rintro k4 s4 x12 fr _ ⟨m24, rfl, hK, l24, hS, hq4⟩ h hn4
    unfold G.slices_symMergeCmpFunc_int_v0_delta_sorted_1_l4 at h
    refine w_seq ?_
    refine w_seq (w_region ?_)
    refine qp 55 (.int .i64 s4.1) hK fun fr hK => ?_
    refine qp 56 (.int .i64 v11) hK fun fr hK => ?_
    refine qp 57 (.int .i64 (IntKind.i64.wrap (v11 - 1))) hK fun fr hK => ?_
    refine qp 58 (.bool (decide (s4.1 < (IntKind.i64.wrap (v11 - 1))))) hK fun fr hK => ?_
    refine wpListIn_nil (then_n ?_)
    refine w_cond hK rfl (fun hb15 => ?_) (fun hb15 => ?_)
    ·
     replace hK := hK.more (t := 58) (v' := .bool true) rfl (by rw [hb15])
     replace h := ite_t (of_decide_eq_true hb15) h
     refine wpIn_skip ?_
     refine then_n ?_
     refine w_seq ?_
     refine wpIn_block ?_
     replace a4_0_f := Els.mono rep_G_Command a4_0_f (l23.trans l24)
     replace hS := hS.front 1 rfl
     obtain ⟨x13, hy14, h⟩ := bind_some h
     obtain ⟨j_x13, hj_x13, hl_x13, hx_x13⟩ := idx_ok hy14
     obtain ⟨x14, hy15, h⟩ := bind_some h
     obtain ⟨j_x14, hj_x14, hl_x14, hx_x14⟩ := idx_ok hy15
     obtain ⟨x15, hy16, h⟩ := bind_some h
     obtain ⟨j_x15, hj_x15, hl_x15, hx_x15⟩ := idx_ok hy16
     have hz5 : j_x15 = s4.1.toNat := by rw [hj_x15]; rfl
     have hz6 : (s4.2.set s4.1.toNat x13).length = a0.length := (List.length_set ..).trans hq4
     have hm0 : ∀ p ∈ ([(fun _ A _ => A = [.box a0_b (vecC (Value.int .i64) s4.2) a0_T]), (fun l A M => A = [.box a0_b (vecC (Value.int .i64) (s4.2.set s4.1.toNat x13)) a0_T])] : List D.Stage), D.MonoP p := D.allP_cons (fun _ _ _ _ h _ => h) (D.allP_cons (fun _ _ _ _ h _ => h) (D.allP_nil))
     have hCm := D.C1_mono [.box a4_0_b #[.slice a4_0_a a4.length a4_0_c] a4_0_T] hm0
     refine D.wp_drawM (m0 := m24) 16 [[15]] [([(0, none)], [(0, 0)], none), ([(13, none)], [(0, 0)], none), ([(0, none)], [(0, 1)], none), ([(13, none)], [(0, 1)], none), ([(64, some 0)], [(0, 1)], none), ([(0, none)], [(0, 0)], none), ([(13, none)], [(0, 0)], none), ([(67, some 0)], [(0, 0)], none), ([(66, some 2), (68, some 0)], [(0, 0)], none), ([(69, some 0)], [(0, 0)], none), ([(0, none)], [(0, 0)], none), ([(13, none)], [(0, 0)], none), ([(71, some 1), (72, some 0)], [(0, 0)], none), ([(73, some 0)], [(0, 0)], none), ([(61, some 13), (62, some 12)], [(0, 0)], none), ([(75, some 0), (70, some 5)], [(0, 0)], some 0)] (D.SM m24 m (blocksOf [.box a0_b (vecC (Value.int .i64) a0) a0_T, .box a4_0_b #[.slice a4_0_a a4.length a4_0_c] a4_0_T]) (D.C1 [(fun _ A _ => A = [.box a0_b (vecC (Value.int .i64) s4.2) a0_T]), (fun l A M => A = [.box a0_b (vecC (Value.int .i64) (s4.2.set s4.1.toNat x13)) a0_T])] [.box a4_0_b #[.slice a4_0_a a4.length a4_0_c] a4_0_T])) hK.size (by kernel_rfl) (by kernel_rfl) (by kernel_rfl) (D.start1 hS (fun _ => rfl)) ?_
     refine D.onP [(0, .slice (some ⟨a0_b, 0, none⟩) a0.length a0.length)] (.slice (some ⟨a0_b, 0, none⟩) a0.length a0.length) (fun ac MM hk => (.cons (hk.1.trans (hK.at_ 0 _ rfl)) (.nil _))) ?_
     refine D.onP [(13, .int .i64 s4.1)] (.int .i64 s4.1) (fun ac MM hk => (.cons (hk.1.trans (hK.at_ 13 _ rfl)) (.nil _))) ?_
     refine D.onP [(0, .slice (some ⟨a0_b, 0, none⟩) a0.length a0.length)] (.slice (some ⟨a0_b, 0, none⟩) a0.length a0.length) (fun ac MM hk => (.cons (hk.1.trans (hK.at_ 0 _ rfl)) (.nil _))) ?_
     refine D.onP [(13, .int .i64 s4.1)] (.int .i64 s4.1) (fun ac MM hk => (.cons (hk.1.trans (hK.at_ 13 _ rfl)) (.nil _))) ?_
     refine D.onP [(64, .int .i64 s4.1)] (.int .i64 (IntKind.i64.wrap (s4.1 + 1))) (fun ac MM hk => (.cons (hk.1) (.nil _))) ?_
     refine D.onP [(0, .slice (some ⟨a0_b, 0, none⟩) a0.length a0.length)] (.slice (some ⟨a0_b, 0, none⟩) a0.length a0.length) (fun ac MM hk => (.cons (hk.1.trans (hK.at_ 0 _ rfl)) (.nil _))) ?_
     refine D.onP [(13, .int .i64 s4.1)] (.int .i64 s4.1) (fun ac MM hk => (.cons (hk.1.trans (hK.at_ 13 _ rfl)) (.nil _))) ?_
     refine D.onP [(67, .int .i64 s4.1)] (.int .i64 (IntKind.i64.wrap (s4.1 + 1))) (fun ac MM hk => (.cons (hk.1) (.nil _))) ?_
     refine D.onD [(66, .slice (some ⟨a0_b, 0, none⟩) a0.length a0.length), (68, .int .i64 (IntKind.i64.wrap (s4.1 + 1)))] (.pointer (some ⟨a0_b, j_x13, none⟩)) (fun ac MM hk => (.cons (hk.1) (.cons (hk.2.1) (.nil _)))) (fun ac MM vs hbd hS hKe Post hp => s_indexV (m := MM) elT124_1 j_x13 hKe rfl rfl rfl hj_x13 (Nat.lt_of_lt_of_eq hl_x13 hq4) hp) ?_
     refine D.onA (fun uu _ => uu = .int .i64 x13) (fun _ _ _ h _ => h) (by
      intro ac MM vs hbd hcor hS00 hk; have hS0 := hS00
      obtain ⟨hle, LL, hC, hSt⟩ := hS0
      have hSt0 := hSt
      have hC0 := hC; obtain ⟨A0, h0, rfl⟩ := hC
      have hn := D.bd_eq hbd 0 0 rfl
      obtain rfl := D.CH.at h0 hn rfl
      replace hSt := hSt
      have k69 : ac.eval (.tmp 69) = .pointer (some ⟨a0_b, j_x13, none⟩) := hk.1
      have hKe : Ke ac [(69, .pointer (some ⟨a0_b, j_x13, none⟩))] := (.cons k69 (.nil _))
      have hS := hSt
      exact ⟨D.wanted0 rfl, s_load hKe hS 0 rfl rfl rfl (by rw [hx_x13]; exact vecC_get (Value.int .i64) hl_x13) (by kernel_rfl) ⟨MM, rfl, Le.refl _, rfl, hS00⟩⟩) ?_
     refine D.onP [(0, .slice (some ⟨a0_b, 0, none⟩) a0.length a0.length)] (.slice (some ⟨a0_b, 0, none⟩) a0.length a0.length) (fun ac MM hk => (.cons (hk.1.trans (hK.at_ 0 _ rfl)) (.nil _))) ?_
     refine D.onP [(13, .int .i64 s4.1)] (.int .i64 s4.1) (fun ac MM hk => (.cons (hk.1.trans (hK.at_ 13 _ rfl)) (.nil _))) ?_
     refine D.onD [(71, .slice (some ⟨a0_b, 0, none⟩) a0.length a0.length), (72, .int .i64 s4.1)] (.pointer (some ⟨a0_b, j_x14, none⟩)) (fun ac MM hk => (.cons (hk.1) (.cons (hk.2.1) (.nil _)))) (fun ac MM vs hbd hS hKe Post hp => s_indexV (m := MM) elT124_1 j_x14 hKe rfl rfl rfl hj_x14 (Nat.lt_of_lt_of_eq hl_x14 hq4) hp) ?_
     refine D.onA (fun uu _ => uu = .int .i64 x14) (fun _ _ _ h _ => h) (by
      intro ac MM vs hbd hcor hS00 hk; have hS0 := hS00
      obtain ⟨hle, LL, hC, hSt⟩ := hS0
      have hSt0 := hSt
      have hC0 := hC; obtain ⟨A0, h0, rfl⟩ := hC
      have hn := D.bd_eq hbd 0 0 rfl
      obtain rfl := D.CH.at h0 hn rfl
      replace hSt := hSt
      have k73 : ac.eval (.tmp 73) = .pointer (some ⟨a0_b, j_x14, none⟩) := hk.1
      have hKe : Ke ac [(73, .pointer (some ⟨a0_b, j_x14, none⟩))] := (.cons k73 (.nil _))
      have hS := hSt
      exact ⟨D.wanted0 rfl, s_load hKe hS 0 rfl rfl rfl (by rw [hx_x14]; exact vecC_get (Value.int .i64) hl_x14) (by kernel_rfl) ⟨MM, rfl, Le.refl _, rfl, hS00⟩⟩) ?_
     refine D.onD [(61, .slice (some ⟨a0_b, 0, none⟩) a0.length a0.length), (62, .int .i64 s4.1)] (.pointer (some ⟨a0_b, j_x15, none⟩)) (fun ac MM hk => (.cons (hk.1) (.cons (hk.2.1) (.nil _)))) (fun ac MM vs hbd hS hKe Post hp => s_indexV (m := MM) elT124_1 j_x15 hKe rfl rfl rfl hj_x15 (Nat.lt_of_lt_of_eq hl_x15 hq4) hp) ?_
     refine D.onA (fun _ _ => True) (fun _ _ _ h _ => h) (by
      intro ac MM vs hbd hcor hS00 hk; have hS0 := hS00
      obtain ⟨hle, LL, hC, hSt⟩ := hS0
      have hSt0 := hSt
      have hC0 := hC; obtain ⟨A0, h0, rfl⟩ := hC
      have hn := D.bd_eq hbd 0 0 rfl
      obtain rfl := D.CH.at h0 hn rfl
      replace hSt := hSt
      have k75 : ac.eval (.tmp 75) = .pointer (some ⟨a0_b, j_x15, none⟩) := hk.1
      have k70 : ac.eval (.tmp 70) = .int .i64 x13 := hk.2.1
      have hKe : Ke ac [(75, .pointer (some ⟨a0_b, j_x15, none⟩)), (70, .int .i64 x13)] := (.cons k75 (.cons k70 (.nil _)))
      exact ⟨D.wanted0 rfl, s_storeV (Value.int .i64) (l := s4.2) (j := j_x15) x13 hKe 0 hSt rfl rfl rfl rfl (by kernel_rfl) rfl hl_x15 (by
        intro M2 l2 hS2; rw [hz5] at hS2
        exact ⟨M2, rfl, l2, trivial, hle.trans l2, _, ⟨_, D.CH.push hn rfl rfl, rfl⟩, hS2⟩)⟩) ?_
     intro fr2 m25 vs hlen hcor hS2 hE; obtain ⟨l25, LL, hC, hS2⟩ := hS2
     obtain ⟨A0, h0, rfl⟩ := hC
     obtain ⟨rfl⟩ := D.CH.at h0 (hlen 0) rfl
     replace hS2 : St _ m m25 [.box a0_b (vecC (Value.int .i64) (s4.2.set s4.1.toNat x13)) a0_T, .box a4_0_b #[.slice a4_0_a a4.length a4_0_c] a4_0_T] := hS2
     have hK2 := D.kn_endsM [(61, .slice (some ⟨a0_b, 0, none⟩) a0.length a0.length), (62, .int .i64 s4.1), (63, .slice (some ⟨a0_b, 0, none⟩) a0.length a0.length), (64, .int .i64 s4.1), (65, .int .i64 (IntKind.i64.wrap (s4.1 + 1))), (66, .slice (some ⟨a0_b, 0, none⟩) a0.length a0.length), (67, .int .i64 s4.1), (68, .int .i64 (IntKind.i64.wrap (s4.1 + 1))), (69, .pointer (some ⟨a0_b, j_x13, none⟩)), (70, .int .i64 x13), (71, .slice (some ⟨a0_b, 0, none⟩) a0.length a0.length), (72, .int .i64 s4.1), (73, .pointer (some ⟨a0_b, j_x14, none⟩)), (74, .int .i64 x14), (75, .pointer (some ⟨a0_b, j_x15, none⟩))] hK hE rfl (by kernel_rfl) (.cons (hE.slots 61) (.cons (hE.slots 62) (.cons (hE.slots 63) (.cons (hE.slots 64) (.cons (hE.slots 65) (.cons (hE.slots 66) (.cons (hE.slots 67) (.cons (hE.slots 68) (.cons (hE.slots 69) (.cons (hE.slots 70) (.cons (hE.slots 71) (.cons (hE.slots 72) (.cons (hE.slots 73) (.cons (hE.slots 74) (.cons (hE.slots 75) (.nil _))))))))))))))))
     replace hK2 : Kn 220 fr2 [(61, .slice (some ⟨a0_b, 0, none⟩) a0.length a0.length), (62, .int .i64 s4.1), (63, .slice (some ⟨a0_b, 0, none⟩) a0.length a0.length), (64, .int .i64 s4.1), (65, .int .i64 (IntKind.i64.wrap (s4.1 + 1))), (66, .slice (some ⟨a0_b, 0, none⟩) a0.length a0.length), (67, .int .i64 s4.1), (68, .int .i64 (IntKind.i64.wrap (s4.1 + 1))), (69, .pointer (some ⟨a0_b, j_x13, none⟩)), (70, .int .i64 x13), (71, .slice (some ⟨a0_b, 0, none⟩) a0.length a0.length), (72, .int .i64 s4.1), (73, .pointer (some ⟨a0_b, j_x14, none⟩)), (74, .int .i64 x14), (75, .pointer (some ⟨a0_b, j_x15, none⟩)), (58, .bool true), (57, .int .i64 (IntKind.i64.wrap (v11 - 1))), (56, .int .i64 v11), (55, .int .i64 s4.1), (0, .slice (some ⟨a0_b, 0, none⟩) a0.length a0.length), (10, .int .i64 v11), (13, .int .i64 s4.1)] := hK2.only [61, 62, 63, 64, 65, 66, 67, 68, 69, 70, 71, 72, 73, 74, 75, 58, 57, 56, 55, 0, 10, 13]
     clear hE hK hcor hlen h0; revert hK2; clear hS; revert fr2; clear fr; intro fr hK; have hS := hS2; clear hS2 hCm hm0
     replace hS : St _ m m25 [.box a0_b (vecC (Value.int .i64) (s4.2.set s4.1.toNat x13)) a0_T, .box a4_0_b #[.slice a4_0_a a4.length a4_0_c] a4_0_T] := hS
     obtain ⟨x16, hy17, h⟩ := bind_some h
     obtain ⟨j2, hj2, hl2, hx2⟩ := idx_ok hy17
     refine qo 76 hK (s_indexV elT124_1 j2 hK.at_ rfl rfl rfl hj2 (Nat.lt_of_lt_of_eq hl2 hz6) ?_)
     clear hK fr; intro fr hK
     refine qo0 hK (s_storeV (Value.int .i64) (l := (s4.2.set s4.1.toNat x13)) (j := j2) x14 hK.at_ 0 hS rfl rfl rfl rfl (by kernel_rfl) rfl hl2 ?_)
     clear hK fr hS; intro m26 l26 hS fr hK
     have hz7 : j2 = (IntKind.i64.wrap (s4.1 + 1)).toNat := by rw [hj2]; rfl
     have hz8 : ((s4.2.set s4.1.toNat x13).set (IntKind.i64.wrap (s4.1 + 1)).toNat x14).length = a0.length := (List.length_set ..).trans hz6
     replace hS : St (blocksOf [.box a0_b (vecC (Value.int .i64) a0) a0_T, .box a4_0_b #[.slice a4_0_a a4.length a4_0_c] a4_0_T]) m m26 [.box a0_b (vecC (Value.int .i64) ((s4.2.set s4.1.toNat x13).set (IntKind.i64.wrap (s4.1 + 1)).toNat x14)) a0_T, .box a4_0_b #[.slice a4_0_a a4.length a4_0_c] a4_0_T] := by rw [← hz7]; exact hS
     refine wpListIn_nil ?_
     refine blk_n ?_
     refine then_n ?_
     refine w_region ?_
     refine qp 59 (.int .i64 s4.1) hK fun fr hK => ?_
     refine qp 60 (.int .i64 (IntKind.i64.wrap (s4.1 + 1))) hK fun fr hK => ?_
     refine qp 13 (.int .i64 (IntKind.i64.wrap (s4.1 + 1))) hK fun fr hK => ?_
     refine wpListIn_nil (then_n ?_)
     replace hS := hS.front 1 rfl
     replace hS : St _ m m26 [.box a4_0_b #[.slice a4_0_a a4.length a4_0_c] a4_0_T, .box a0_b (vecC (Value.int .i64) ((s4.2.set s4.1.toNat x13).set (IntKind.i64.wrap (s4.1 + 1)).toNat x14)) a0_T] := hS
     replace h := Option.some.inj h; subst h
     obtain ⟨kq, hk1, hk2⟩ := hn4
     exact ⟨kq, hk1, _, hk2, m26, rfl, hK.only [0, 10, 13], l24.trans (l25.trans l26), hS, hz8⟩
    ·
     replace hK := hK.more (t := 58) (v' := .bool false) rfl (by rw [hb15])
     replace h := ite_f (of_decide_eq_false hb15) h
     refine wpIn_exit ?_
     refine then_x ?_
     refine then_x ?_
     refine blk_e ?_
     refine then_n ?_
     refine wpIn_ret ?_
     refine then_r ?_
     refine then_r ?_
     replace h := Option.some.inj h; subst h
     replace h := Option.some.inj (loop_out hn4); subst h
     replace h := Option.some.inj (join_out hk1); subst h
     replace hS := hS.front 1 rfl
     replace hS : St _ m m24 [.box a0_b (vecC (Value.int .i64) s4.2) a0_T, .box a4_0_b #[.slice a4_0_a a4.length a4_0_c] a4_0_T] := hS
     refine ret_of [] [] rfl hK .nil hS ?_
     exact ⟨rfl, rfl, hq4⟩
   ·
    replace h := hv11; clear hv11
    refine wpIn_block ?_
    replace hS := hS.front 1 rfl
    replace hS : St _ m m [.box a4_0_b #[.slice a4_0_a a4.length a4_0_c] a4_0_T, .box a0_b (vecC (Value.int .i64) a0) a0_T] := hS
    refine w_loopL h (fun (s5 : Int × Int) fr ww => ∃ m27 : Mem, m27.w = ww ∧ Kn 220 fr [(0, .slice (some ⟨a0_b, 0, none⟩) a0.length a0.length), (1, .int .i64 a1), (4, .func (.func 96) #[] #[.pointer (some ⟨a4_0_b, 0, none⟩)]), (10, .int .i64 s5.1), (11, .int .i64 s5.2)] ∧ Le m m27 ∧ St (blocksOf [.box a0_b (vecC (Value.int .i64) a0) a0_T, .box a4_0_b #[.slice a4_0_a a4.length a4_0_c] a4_0_T]) m m27 [.box a4_0_b #[.slice a4_0_a a4.length a4_0_c] a4_0_T, .box a0_b (vecC (Value.int .i64) a0) a0_T]) ?_ ?_
    · exact ⟨m, rfl, hK.only [0, 1, 4, 10, 11], Le.refl _, hS⟩
    clear hK hS fr h
    rintro k5 s5 x17 fr _ ⟨m27, rfl, hK, l27, hS⟩ h hn5
    unfold G.slices_symMergeCmpFunc_int_v0_delta_sorted_1_l5 at h
    refine w_seq ?_
    refine w_seq (w_region ?_)
    refine qp 31 (.int .i64 s5.1) hK fun fr hK => ?_
    refine qp 32 (.int .i64 s5.2) hK fun fr hK => ?_
    refine qp 33 (.bool (decide (s5.1 < s5.2))) hK fun fr hK => ?_
    refine wpListIn_nil (then_n ?_)
    refine w_cond hK rfl (fun hb16 => ?_) (fun hb16 => ?_)
    ·
     replace hK := hK.more (t := 33) (v' := .bool true) rfl (by rw [hb16])
     replace h := ite_t (of_decide_eq_true hb16) h
     refine wpIn_skip ?_
     refine then_n ?_
     refine wpIn_block ?_
     refine w_seq (w_region ?_)
     refine qp 34 (.int .i64 s5.1) hK fun fr hK => ?_
     refine qp 35 (.int .i64 s5.2) hK fun fr hK => ?_
     refine qp 36 (.int .i64 (IntKind.i64.wrap (s5.1 + s5.2))) hK fun fr hK => ?_
     refine qp 37 (.int .u64 (IntKind.u64.wrap (IntKind.i64.wrap (s5.1 + s5.2)))) hK fun fr hK => ?_
     refine qr 38 (.int .u64 (ishr .u64 (IntKind.u64.wrap (IntKind.i64.wrap (s5.1 + s5.2))) 1)) hK (by exact run_shr (by decide) rfl rfl rfl) ?_
     clear hK fr; intro fr hK
     refine qp 39 (.int .i64 (IntKind.i64.wrap (ishr .u64 (IntKind.u64.wrap (IntKind.i64.wrap (s5.1 + s5.2))) 1))) hK fun fr hK => ?_
     refine qp 12 (.int .i64 (IntKind.i64.wrap (ishr .u64 (IntKind.u64.wrap (IntKind.i64.wrap (s5.1 + s5.2))) 1))) hK fun fr hK => ?_
     refine wpListIn_nil (then_n ?_)
     refine w_seq ?_
     replace a4_0_f := Els.mono rep_G_Command a4_0_f l27
     obtain ⟨x18, hy18, h⟩ := bind_some h
     obtain ⟨j_x18, hj_x18, hl_x18, hx_x18⟩ := idx_ok hy18
     obtain ⟨x19, hy19, h⟩ := bind_some h
     obtain ⟨j_x19, hj_x19, hl_x19, hx_x19⟩ := idx_ok hy19
     have hlt0 : ∀ bq ∈ blocksOf [.box a4_0_b #[.slice a4_0_a a4.length a4_0_c] a4_0_T, .box a0_b (vecC (Value.int .i64) a0) a0_T], bq < m27.w.heap.size := fun bq hbq => hS.ow.lt hbq
     refine D.wp_draw (Gr := D.GO m27 none) (S := D.SO none (blocksOf [.box a0_b (vecC (Value.int .i64) a0) a0_T, .box a4_0_b #[.slice a4_0_a a4.length a4_0_c] a4_0_T]) m m27 (fun _ => [.box a4_0_b #[.slice a4_0_a a4.length a4_0_c] a4_0_T, .box a0_b (vecC (Value.int .i64) a0) a0_T]) (fun _ => True)) (N := 0) 9 [] [([(4, none)], 0, 0, false), ([(0, none)], 0, 0, false), ([(12, none)], 0, 0, false), ([(41, some 1), (42, some 0)], 0, 0, false), ([(43, some 0)], 0, 0, false), ([(0, none)], 0, 0, false), ([(1, none)], 0, 0, false), ([(45, some 1), (46, some 0)], 0, 0, false), ([(47, some 0)], 0, 0, false)] hK.size (by kernel_rfl) (by kernel_rfl) (by kernel_rfl) rfl (D.startO hS trivial) ?_
     refine D.on_pure (D.GO_refl _ _) [(4, .func (.func 96) #[] #[.pointer (some ⟨a4_0_b, 0, none⟩)])] (.func (.func 96) #[] #[.pointer (some ⟨a4_0_b, 0, none⟩)]) (fun ac ww hk => (.cons (hk.1.trans (hK.at_ 4 _ rfl)) (.nil _))) ?_
     refine D.on_pure (D.GO_refl _ _) [(0, .slice (some ⟨a0_b, 0, none⟩) a0.length a0.length)] (.slice (some ⟨a0_b, 0, none⟩) a0.length a0.length) (fun ac ww hk => (.cons (hk.1.trans (hK.at_ 0 _ rfl)) (.nil _))) ?_
     refine D.on_pure (D.GO_refl _ _) [(12, .int .i64 (IntKind.i64.wrap (ishr .u64 (IntKind.u64.wrap (IntKind.i64.wrap (s5.1 + s5.2))) 1)))] (.int .i64 (IntKind.i64.wrap (ishr .u64 (IntKind.u64.wrap (IntKind.i64.wrap (s5.1 + s5.2))) 1))) (fun ac ww hk => (.cons (hk.1.trans (hK.at_ 12 _ rfl)) (.nil _))) ?_
     refine D.on_det (D.GO_refl _ _) [(41, .slice (some ⟨a0_b, 0, none⟩) a0.length a0.length), (42, .int .i64 (IntKind.i64.wrap (ishr .u64 (IntKind.u64.wrap (IntKind.i64.wrap (s5.1 + s5.2))) 1)))] (.pointer (some ⟨a0_b, j_x18, none⟩)) (fun ac ww hk => (.cons (hk.1) (.cons (hk.2.1) (.nil _)))) (fun ac ww kk hb hKe Post hp => s_indexV (m := (m27.upO none ww)) elT124_1 j_x18 hKe rfl rfl rfl hj_x18 (Nat.lt_of_lt_of_eq hl_x18 rfl) hp) ?_
     refine D.on_det (D.GO_refl _ _) [(43, .pointer (some ⟨a0_b, j_x18, none⟩))] (.int .i64 x18) (fun ac ww hk => (.cons (hk.1) (.nil _))) (fun ac ww kk hb hKe Post hp => (fun hS => s_load hKe hS 1 rfl rfl rfl (by rw [hx_x18]; exact vecC_get (Value.int .i64) hl_x18) (by kernel_rfl) hp) hb.2.1) ?_
     refine D.on_pure (D.GO_refl _ _) [(0, .slice (some ⟨a0_b, 0, none⟩) a0.length a0.length)] (.slice (some ⟨a0_b, 0, none⟩) a0.length a0.length) (fun ac ww hk => (.cons (hk.1.trans (hK.at_ 0 _ rfl)) (.nil _))) ?_
     refine D.on_pure (D.GO_refl _ _) [(1, .int .i64 a1)] (.int .i64 a1) (fun ac ww hk => (.cons (hk.1.trans (hK.at_ 1 _ rfl)) (.nil _))) ?_
     refine D.on_det (D.GO_refl _ _) [(45, .slice (some ⟨a0_b, 0, none⟩) a0.length a0.length), (46, .int .i64 a1)] (.pointer (some ⟨a0_b, j_x19, none⟩)) (fun ac ww hk => (.cons (hk.1) (.cons (hk.2.1) (.nil _)))) (fun ac ww kk hb hKe Post hp => s_indexV (m := (m27.upO none ww)) elT124_1 j_x19 hKe rfl rfl rfl hj_x19 (Nat.lt_of_lt_of_eq hl_x19 rfl) hp) ?_
     refine D.on_det (D.GO_refl _ _) [(47, .pointer (some ⟨a0_b, j_x19, none⟩))] (.int .i64 x19) (fun ac ww hk => (.cons (hk.1) (.nil _))) (fun ac ww kk hb hKe Post hp => (fun hS => s_load hKe hS 1 rfl rfl rfl (by rw [hx_x19]; exact vecC_get (Value.int .i64) hl_x19) (by kernel_rfl) hp) hb.2.1) ?_
     refine D.finO ?_
     intro fr2 m28 hm1 l28 hS2 hF2 hE
     replace hS2 : St _ m m28 [.box a4_0_b #[.slice a4_0_a a4.length a4_0_c] a4_0_T, .box a0_b (vecC (Value.int .i64) a0) a0_T] := hS2
     have hK2 := D.kn_ends [(40, .func (.func 96) #[] #[.pointer (some ⟨a4_0_b, 0, none⟩)]), (41, .slice (some ⟨a0_b, 0, none⟩) a0.length a0.length), (42, .int .i64 (IntKind.i64.wrap (ishr .u64 (IntKind.u64.wrap (IntKind.i64.wrap (s5.1 + s5.2))) 1))), (43, .pointer (some ⟨a0_b, j_x18, none⟩)), (44, .int .i64 x18), (45, .slice (some ⟨a0_b, 0, none⟩) a0.length a0.length), (46, .int .i64 a1), (47, .pointer (some ⟨a0_b, j_x19, none⟩)), (48, .int .i64 x19)] hK hE rfl (by kernel_rfl) (.cons (hE.slots 40) (.cons (hE.slots 41) (.cons (hE.slots 42) (.cons (hE.slots 43) (.cons (hE.slots 44) (.cons (hE.slots 45) (.cons (hE.slots 46) (.cons (hE.slots 47) (.cons (hE.slots 48) (.nil _))))))))))
     replace hK2 : Kn 220 fr2 [(40, .func (.func 96) #[] #[.pointer (some ⟨a4_0_b, 0, none⟩)]), (41, .slice (some ⟨a0_b, 0, none⟩) a0.length a0.length), (42, .int .i64 (IntKind.i64.wrap (ishr .u64 (IntKind.u64.wrap (IntKind.i64.wrap (s5.1 + s5.2))) 1))), (43, .pointer (some ⟨a0_b, j_x18, none⟩)), (44, .int .i64 x18), (45, .slice (some ⟨a0_b, 0, none⟩) a0.length a0.length), (46, .int .i64 a1), (47, .pointer (some ⟨a0_b, j_x19, none⟩)), (48, .int .i64 x19), (12, .int .i64 (IntKind.i64.wrap (ishr .u64 (IntKind.u64.wrap (IntKind.i64.wrap (s5.1 + s5.2))) 1))), (39, .int .i64 (IntKind.i64.wrap (ishr .u64 (IntKind.u64.wrap (IntKind.i64.wrap (s5.1 + s5.2))) 1))), (38, .int .u64 (ishr .u64 (IntKind.u64.wrap (IntKind.i64.wrap (s5.1 + s5.2))) 1)), (37, .int .u64 (IntKind.u64.wrap (IntKind.i64.wrap (s5.1 + s5.2)))), (36, .int .i64 (IntKind.i64.wrap (s5.1 + s5.2))), (35, .int .i64 s5.2), (34, .int .i64 s5.1), (33, .bool true), (32, .int .i64 s5.2), (31, .int .i64 s5.1), (0, .slice (some ⟨a0_b, 0, none⟩) a0.length a0.length), (1, .int .i64 a1), (4, .func (.func 96) #[] #[.pointer (some ⟨a4_0_b, 0, none⟩)]), (10, .int .i64 s5.1), (11, .int .i64 s5.2)] := hK2.only [40, 41, 42, 43, 44, 45, 46, 47, 48, 12, 39, 38, 37, 36, 35, 34, 33, 32, 31, 0, 1, 4, 10, 11]
     clear hE hK; revert hK2; clear hm1 hS hlt0; revert fr2; clear fr; intro fr hK; have hS := hS2; clear hS2
     replace hS : St _ m m28 [.box a4_0_b #[.slice a4_0_a a4.length a4_0_c] a4_0_T, .box a0_b (vecC (Value.int .i64) a0) a0_T] := hS
     replace a4_0_f := Els.mono rep_G_Command a4_0_f l28
     obtain ⟨y6, hy20, h⟩ := bind_some h
     replace hS : St _ m m28 [.box a4_0_b #[.slice a4_0_a a4.length a4_0_c] a4_0_T, .box a0_b (vecC (Value.int .i64) a0) a0_T] := hS
     refine qo 49 hK (s_callM (R := [.box a4_0_b #[.slice a4_0_a a4.length a4_0_c] a4_0_T]) (L := [.box a0_b (vecC (Value.int .i64) a0) a0_T]) hK.at_ hS ent96_1 rfl rfl rfl rfl (G.delta_sorted_1_spec a4_0_f hy20 (Ow.left (L := [.box a4_0_b #[.slice a4_0_a a4.length a4_0_c] a4_0_T]) hS.ow)) (by kernel_rfl) ?_)
     clear hK fr hS; rintro _ m29 _ l29 hS ⟨rfl, rfl⟩ fr hK
     replace hS : St _ m m29 [.box a4_0_b #[.slice a4_0_a a4.length a4_0_c] a4_0_T, .box a0_b (vecC (Value.int .i64) a0) a0_T] := hS
     refine qp 50 (.bool (decide (y6 < 0))) hK fun fr hK => ?_
     refine wpListIn_nil (then_n ?_)
     refine w_cond hK rfl (fun hb17 => ?_) (fun hb17 => ?_)
     ·
      replace hK := hK.more (t := 50) (v' := .bool true) rfl (by rw [hb17])
      replace h := ite_t (of_decide_eq_true hb17) h
      refine w_region ?_
      refine qp 51 (.int .i64 (IntKind.i64.wrap (ishr .u64 (IntKind.u64.wrap (IntKind.i64.wrap (s5.1 + s5.2))) 1))) hK fun fr hK => ?_
      refine qp 52 (.int .i64 (IntKind.i64.wrap ((IntKind.i64.wrap (ishr .u64 (IntKind.u64.wrap (IntKind.i64.wrap (s5.1 + s5.2))) 1)) + 1))) hK fun fr hK => ?_
      refine qp 10 (.int .i64 (IntKind.i64.wrap ((IntKind.i64.wrap (ishr .u64 (IntKind.u64.wrap (IntKind.i64.wrap (s5.1 + s5.2))) 1)) + 1))) hK fun fr hK => ?_
      refine wpListIn_nil ?_
      refine blk_n ?_
      refine then_n ?_
      replace hS := hS.front 1 rfl
      replace hS := hS.front 1 rfl
      replace hS : St _ m m29 [.box a4_0_b #[.slice a4_0_a a4.length a4_0_c] a4_0_T, .box a0_b (vecC (Value.int .i64) a0) a0_T] := hS
      replace h := Option.some.inj h; subst h
      obtain ⟨kq, hk1, hk2⟩ := hn5
      exact ⟨kq, hk1, _, hk2, m29, rfl, hK.only [0, 1, 4, 10, 11], l27.trans (l28.trans l29), hS⟩
     ·
      replace hK := hK.more (t := 50) (v' := .bool false) rfl (by rw [hb17])
      replace h := ite_f (of_decide_eq_false hb17) h
      refine w_region ?_
      refine qp 53 (.int .i64 (IntKind.i64.wrap (ishr .u64 (IntKind.u64.wrap (IntKind.i64.wrap (s5.1 + s5.2))) 1))) hK fun fr hK => ?_
      refine qp 11 (.int .i64 (IntKind.i64.wrap (ishr .u64 (IntKind.u64.wrap (IntKind.i64.wrap (s5.1 + s5.2))) 1))) hK fun fr hK => ?_
      refine wpListIn_nil ?_
      refine blk_n ?_
      refine then_n ?_
      replace hS := hS.front 1 rfl
      replace hS := hS.front 1 rfl
      replace hS : St _ m m29 [.box a4_0_b #[.slice a4_0_a a4.length a4_0_c] a4_0_T, .box a0_b (vecC (Value.int .i64) a0) a0_T] := hS
      replace h := Option.some.inj h; subst h
      obtain ⟨kq, hk1, hk2⟩ := hn5
      exact ⟨kq, hk1, _, hk2, m29, rfl, hK.only [0, 1, 4, 10, 11], l27.trans (l28.trans l29), hS⟩
    ·
     replace hK := hK.more (t := 33) (v' := .bool false) rfl (by rw [hb16])
     replace h := ite_f (of_decide_eq_false hb16) h
     refine wpIn_exit ?_
     refine then_x ?_
     refine then_x ?_
     refine blk_e ?_
     refine then_n ?_
     replace hS := hS.front 1 rfl
     replace hS := hS.front 1 rfl
     replace hS : St _ m m27 [.box a4_0_b #[.slice a4_0_a a4.length a4_0_c] a4_0_T, .box a0_b (vecC (Value.int .i64) a0) a0_T] := hS
     replace h := Option.some.inj h; subst h
     replace h := Option.some.inj (loop_out hn5); subst h
     exact ⟨m27, rfl, hK.only [0, 1, 10], l27, hS⟩
  ·
   replace hK := hK.more (t := 28) (v' := .bool false) rfl (by rw [hb14])
   replace h := ite_f (ne_of_beq_false hb14) h
   refine wpIn_skip ?_
   refine then_n ?_
   replace hS := hS.front 1 rfl
   replace hS : St _ m m [.box a4_0_b #[.slice a4_0_a a4.length a4_0_c] a4_0_T, .box a0_b (vecC (Value.int .i64) a0) a0_T] := hS
   replace h := Option.some.inj h; subst h
   exact ⟨_, rfl, m, rfl, hK.only [0, 1, 2, 3, 4], Le.refl _, hS⟩
theorem G.slices_symMergeCmpFunc_int_v0_delta_sorted_1_all : ∀ (k : Nat) {m : Mem} {a0 : List Int} {a0_b : Nat} {a0_T : TypeId} {a0_n : Nat} (a0_l : a0.length = a0_n) {a1 : Int} {a2 : Int} {a3 : Int} {a4 : (List G.Command)} {a4_0_b : Nat} {a4_0_a : Option Addr} {a4_0_c : Nat} {a4_0_T : TypeId} (a4_0_f : Els is_G_Command m 5 a4_0_a a4_0_c a4) {r : (List Int)} (h : Fix.it G.slices_symMergeCmpFunc_int_v0_delta_sorted_1_F k (a0, a1, a2, a3, a4) = some r) (hO : Ow m [.box a0_b (vecC (Value.int .i64) a0) a0_T, .box a4_0_b #[.slice a4_0_a a4.length a4_0_c] a4_0_T]), Spec Try.prog 113 #[.slice (some ⟨a0_b, 0, none⟩) a0_n a0_n, .int .i64 a1, .int .i64 a2, .int .i64 a3, .func (.func 96) #[] #[.pointer (some ⟨a4_0_b, 0, none⟩)]] m [.box a0_b (vecC (Value.int .i64) a0) a0_T, .box a4_0_b #[.slice a4_0_a a4.length a4_0_c] a4_0_T] fun v m' L => L = [.box a0_b (vecC (Value.int .i64) r) a0_T, .box a4_0_b #[.slice a4_0_a a4.length a4_0_c] a4_0_T] ∧ v = .tuple #[] ∧ r.length = a0_n := by
 intro k
 induction k with
 | zero => intro m a0 a0_b a0_T a0_n a0_l a1 a2 a3 a4 a4_0_b a4_0_a a4_0_c a4_0_T a4_0_f r h hO; cases h
 | succ k ih => intro m a0 a0_b a0_T a0_n a0_l a1 a2 a3 a4 a4_0_b a4_0_a a4_0_c a4_0_T a4_0_f r h hO; exact G.slices_symMergeCmpFunc_int_v0_delta_sorted_1_step _ @ih a0_l a4_0_f h hO
theorem G.slices_symMergeCmpFunc_int_v0_delta_sorted_1_spec {m : Mem} {a0 : List Int} {a0_b : Nat} {a0_T : TypeId} {a0_n : Nat} (a0_l : a0.length = a0_n) {a1 : Int} {a2 : Int} {a3 : Int} {a4 : (List G.Command)} {a4_0_b : Nat} {a4_0_a : Option Addr} {a4_0_c : Nat} {a4_0_T : TypeId} (a4_0_f : Els is_G_Command m 5 a4_0_a a4_0_c a4) {r : (List Int)} (h : G.slices_symMergeCmpFunc_int_v0_delta_sorted_1 a0 a1 a2 a3 a4 = some r) (hO : Ow m [.box a0_b (vecC (Value.int .i64) a0) a0_T, .box a4_0_b #[.slice a4_0_a a4.length a4_0_c] a4_0_T]) :
  Spec Try.prog 113 #[.slice (some ⟨a0_b, 0, none⟩) a0_n a0_n, .int .i64 a1, .int .i64 a2, .int .i64 a3, .func (.func 96) #[] #[.pointer (some ⟨a4_0_b, 0, none⟩)]] m [.box a0_b (vecC (Value.int .i64) a0) a0_T, .box a4_0_b #[.slice a4_0_a a4.length a4_0_c] a4_0_T] fun v m' L => L = [.box a0_b (vecC (Value.int .i64) r) a0_T, .box a4_0_b #[.slice a4_0_a a4.length a4_0_c] a4_0_T] ∧ v = .tuple #[] ∧ r.length = a0_n := by
 unfold G.slices_symMergeCmpFunc_int_v0_delta_sorted_1 at h
 obtain ⟨k, hk⟩ := Fix_some h
 exact G.slices_symMergeCmpFunc_int_v0_delta_sorted_1_all k a0_l a4_0_f hk hO
set_option maxRecDepth 100000 in
set_option maxHeartbeats 1000000 in
theorem G.slices_stableCmpFunc_int_v0_delta_sorted_1_spec {m : Mem} {a0 : List Int} {a0_b : Nat} {a0_T : TypeId} {a0_n : Nat} (a0_l : a0.length = a0_n) {a1 : Int} {a2 : (List G.Command)} {a2_0_b : Nat} {a2_0_a : Option Addr} {a2_0_c : Nat} {a2_0_T : TypeId} (a2_0_f : Els is_G_Command m 5 a2_0_a a2_0_c a2) {r : (List Int)} (h : G.slices_stableCmpFunc_int_v0_delta_sorted_1 a0 a1 a2 = some r) (hO : Ow m [.box a0_b (vecC (Value.int .i64) a0) a0_T, .box a2_0_b #[.slice a2_0_a a2.length a2_0_c] a2_0_T]) :
  Spec Try.prog 108 #[.slice (some ⟨a0_b, 0, none⟩) a0_n a0_n, .int .i64 a1, .func (.func 96) #[] #[.pointer (some ⟨a2_0_b, 0, none⟩)]] m [.box a0_b (vecC (Value.int .i64) a0) a0_T, .box a2_0_b #[.slice a2_0_a a2.length a2_0_c] a2_0_T] fun v m' L => L = [.box a0_b (vecC (Value.int .i64) r) a0_T, .box a2_0_b #[.slice a2_0_a a2.length a2_0_c] a2_0_T] ∧ v = .tuple #[] ∧ r.length = a0_n := by
 subst a0_l
 unfold G.slices_stableCmpFunc_int_v0_delta_sorted_1 at h
 refine enter (args := [_, _, _]) 63 Try.func108 rfl rfl (by simp) fun fr hK => ?_
 have hS := St.refl (hO)
 replace hK : Kn 63 fr [(0, .slice (some ⟨a0_b, 0, none⟩) a0.length a0.length), (1, .int .i64 a1), (2, .func (.func 96) #[] #[.pointer (some ⟨a2_0_b, 0, none⟩)])] := hK
 refine w_seq (w_region ?_)
 refine qp 6 (.int .i64 20) hK fun fr hK => ?_
 refine wpListIn_nil (then_n ?_)
 refine w_seq (w_region ?_)
 refine qp 10 (.int .i64 20) hK fun fr hK => ?_
 refine qp 7 (.int .i64 0) hK fun fr hK => ?_
 refine qp 8 (.int .i64 20) hK fun fr hK => ?_
 refine wpListIn_nil (then_n ?_)
 refine w_seq ?_
 obtain ⟨v1, hv1, h⟩ := bind_some h
 refine w_join (fun fr ww => ∃ m1 : Mem, m1.w = ww ∧ Kn 63 fr [(0, .slice (some ⟨a0_b, 0, none⟩) a0.length a0.length), (1, .int .i64 a1), (2, .func (.func 96) #[] #[.pointer (some ⟨a2_0_b, 0, none⟩)]), (6, .int .i64 20), (7, .int .i64 v1.1)] ∧ Le m m1 ∧ St (blocksOf [.box a0_b (vecC (Value.int .i64) a0) a0_T, .box a2_0_b #[.slice a2_0_a a2.length a2_0_c] a2_0_T]) m m1 [.box a2_0_b #[.slice a2_0_a a2.length a2_0_c] a2_0_T, .box a0_b (vecC (Value.int .i64) v1.2) a0_T] ∧ v1.2.length = a0.length) ?_ ?_
 ·
  clear hK hS fr hv1
  rintro fr _ ⟨m1, rfl, hK, l1, hS, hq1⟩
  refine then_n ?_
  refine w_seq (w_region ?_)
  refine qp 23 (.slice (some ⟨a0_b, 0, none⟩) a0.length a0.length) hK fun fr hK => ?_
  refine qp 24 (.int .i64 v1.1) hK fun fr hK => ?_
  refine qp 25 (.int .i64 a1) hK fun fr hK => ?_
  refine qp 26 (.func (.func 96) #[] #[.pointer (some ⟨a2_0_b, 0, none⟩)]) hK fun fr hK => ?_
  replace a2_0_f := Els.mono rep_G_Command a2_0_f l1
  obtain ⟨y1, hy1, h⟩ := bind_some h
  replace hS := hS.front 1 rfl
  replace hS : St _ m m1 [.box a0_b (vecC (Value.int .i64) v1.2) a0_T, .box a2_0_b #[.slice a2_0_a a2.length a2_0_c] a2_0_T] := hS
  refine qo 27 hK (s_callM (R := [.box a0_b (vecC (Value.int .i64) v1.2) a0_T, .box a2_0_b #[.slice a2_0_a a2.length a2_0_c] a2_0_T]) (L := []) hK.at_ hS ent112_1 rfl rfl rfl rfl (G.slices_insertionSortCmpFunc_int_v0_delta_sorted_1_spec hq1 a2_0_f hy1 (Ow.left (L := [.box a0_b (vecC (Value.int .i64) v1.2) a0_T, .box a2_0_b #[.slice a2_0_a a2.length a2_0_c] a2_0_T]) hS.ow)) (by kernel_rfl) ?_)
  clear hK fr hS; rintro _ m2 _ l2 hS ⟨rfl, rfl, c1re0⟩ fr hK
  replace hS : St _ m m2 [.box a0_b (vecC (Value.int .i64) y1) a0_T, .box a2_0_b #[.slice a2_0_a a2.length a2_0_c] a2_0_T] := hS
  refine wpListIn_nil (then_n ?_)
  refine wpIn_block ?_
  replace hS := hS.front 1 rfl
  replace hS : St _ m m2 [.box a2_0_b #[.slice a2_0_a a2.length a2_0_c] a2_0_T, .box a0_b (vecC (Value.int .i64) y1) a0_T] := hS
  refine w_loopL h (fun (s1 : Int × (List Int)) fr ww => ∃ m3 : Mem, m3.w = ww ∧ Kn 63 fr [(0, .slice (some ⟨a0_b, 0, none⟩) a0.length a0.length), (1, .int .i64 a1), (2, .func (.func 96) #[] #[.pointer (some ⟨a2_0_b, 0, none⟩)]), (6, .int .i64 s1.1)] ∧ Le m2 m3 ∧ St (blocksOf [.box a0_b (vecC (Value.int .i64) a0) a0_T, .box a2_0_b #[.slice a2_0_a a2.length a2_0_c] a2_0_T]) m m3 [.box a2_0_b #[.slice a2_0_a a2.length a2_0_c] a2_0_T, .box a0_b (vecC (Value.int .i64) s1.2) a0_T] ∧ s1.2.length = a0.length) ?_ ?_
  · exact ⟨m2, rfl, hK.only [0, 1, 2, 6], Le.refl _, hS, c1re0⟩
  clear hK hS fr h
  rintro k1 s1 x1 fr _ ⟨m3, rfl, hK, l3, hS, hq2⟩ h hn1
  unfold G.slices_stableCmpFunc_int_v0_delta_sorted_1_l1 at h
  refine w_seq ?_
  refine w_seq (w_region ?_)
  refine qp 28 (.int .i64 s1.1) hK fun fr hK => ?_
  refine qp 29 (.int .i64 a1) hK fun fr hK => ?_
  refine qp 30 (.bool (decide (s1.1 < a1))) hK fun fr hK => ?_
  refine wpListIn_nil (then_n ?_)
  refine w_cond hK rfl (fun hb1 => ?_) (fun hb1 => ?_)
  ·
   replace hK := hK.more (t := 30) (v' := .bool true) rfl (by rw [hb1])
   replace h := ite_t (of_decide_eq_true hb1) h
   refine wpIn_skip ?_
   refine then_n ?_
   refine wpIn_block ?_
   refine w_seq (w_region ?_)
   refine qp 31 (.int .i64 s1.1) hK fun fr hK => ?_
   refine qp 32 (.int .i64 (IntKind.i64.wrap (2 * s1.1))) hK fun fr hK => ?_
   refine qp 7 (.int .i64 0) hK fun fr hK => ?_
   refine qp 8 (.int .i64 (IntKind.i64.wrap (2 * s1.1))) hK fun fr hK => ?_
   refine wpListIn_nil (then_n ?_)
   refine w_seq ?_
   obtain ⟨v2, hv2, h⟩ := bind_some h
   refine w_join (fun fr ww => ∃ m4 : Mem, m4.w = ww ∧ Kn 63 fr [(0, .slice (some ⟨a0_b, 0, none⟩) a0.length a0.length), (1, .int .i64 a1), (2, .func (.func 96) #[] #[.pointer (some ⟨a2_0_b, 0, none⟩)]), (6, .int .i64 s1.1), (7, .int .i64 v2.1)] ∧ Le m3 m4 ∧ St (blocksOf [.box a0_b (vecC (Value.int .i64) a0) a0_T, .box a2_0_b #[.slice a2_0_a a2.length a2_0_c] a2_0_T]) m m4 [.box a2_0_b #[.slice a2_0_a a2.length a2_0_c] a2_0_T, .box a0_b (vecC (Value.int .i64) v2.2) a0_T] ∧ v2.2.length = a0.length) ?_ ?_
   ·
    clear hK hS fr hv2
    rintro fr _ ⟨m4, rfl, hK, l4, hS, hq3⟩
    refine then_n ?_
    refine w_seq ?_
    refine w_seq (w_region ?_)
    refine qp 49 (.int .i64 v2.1) hK fun fr hK => ?_
    refine qp 50 (.int .i64 s1.1) hK fun fr hK => ?_
    refine qp 51 (.int .i64 (IntKind.i64.wrap (v2.1 + s1.1))) hK fun fr hK => ?_
    refine qp 9 (.int .i64 (IntKind.i64.wrap (v2.1 + s1.1))) hK fun fr hK => ?_
    refine wpListIn_nil (then_n ?_)
    refine w_seq (w_region ?_)
    refine qp 52 (.int .i64 (IntKind.i64.wrap (v2.1 + s1.1))) hK fun fr hK => ?_
    refine qp 53 (.int .i64 a1) hK fun fr hK => ?_
    refine qp 54 (.bool (decide ((IntKind.i64.wrap (v2.1 + s1.1)) < a1))) hK fun fr hK => ?_
    refine wpListIn_nil (then_n ?_)
    refine w_cond hK rfl (fun hb2 => ?_) (fun hb2 => ?_)
    ·
     replace hK := hK.more (t := 54) (v' := .bool true) rfl (by rw [hb2])
     replace h := ite_t (of_decide_eq_true hb2) h
     refine w_region ?_
     refine qp 55 (.slice (some ⟨a0_b, 0, none⟩) a0.length a0.length) hK fun fr hK => ?_
     refine qp 56 (.int .i64 v2.1) hK fun fr hK => ?_
     refine qp 57 (.int .i64 (IntKind.i64.wrap (v2.1 + s1.1))) hK fun fr hK => ?_
     refine qp 58 (.int .i64 a1) hK fun fr hK => ?_
     refine qp 59 (.func (.func 96) #[] #[.pointer (some ⟨a2_0_b, 0, none⟩)]) hK fun fr hK => ?_
     replace a2_0_f := Els.mono rep_G_Command a2_0_f (l2.trans (l3.trans l4))
     obtain ⟨y2, hy2, h⟩ := bind_some h
     replace hS := hS.front 1 rfl
     replace hS : St _ m m4 [.box a0_b (vecC (Value.int .i64) v2.2) a0_T, .box a2_0_b #[.slice a2_0_a a2.length a2_0_c] a2_0_T] := hS
     refine qo 60 hK (s_callM (R := [.box a0_b (vecC (Value.int .i64) v2.2) a0_T, .box a2_0_b #[.slice a2_0_a a2.length a2_0_c] a2_0_T]) (L := []) hK.at_ hS ent113_1 rfl rfl rfl rfl (G.slices_symMergeCmpFunc_int_v0_delta_sorted_1_spec hq3 a2_0_f hy2 (Ow.left (L := [.box a0_b (vecC (Value.int .i64) v2.2) a0_T, .box a2_0_b #[.slice a2_0_a a2.length a2_0_c] a2_0_T]) hS.ow)) (by kernel_rfl) ?_)
     clear hK fr hS; rintro _ m5 _ l5 hS ⟨rfl, rfl, c2re0⟩ fr hK
     replace hS : St _ m m5 [.box a0_b (vecC (Value.int .i64) y2) a0_T, .box a2_0_b #[.slice a2_0_a a2.length a2_0_c] a2_0_T] := hS
     refine wpListIn_nil (then_n ?_)
     refine w_region ?_
     refine qp 61 (.int .i64 s1.1) hK fun fr hK => ?_
     refine qp 62 (.int .i64 (IntKind.i64.wrap (s1.1 * 2))) hK fun fr hK => ?_
     refine qp 6 (.int .i64 (IntKind.i64.wrap (s1.1 * 2))) hK fun fr hK => ?_
     refine wpListIn_nil ?_
     refine blk_n ?_
     refine then_n ?_
     replace hS := hS.front 1 rfl
     replace hS : St _ m m5 [.box a2_0_b #[.slice a2_0_a a2.length a2_0_c] a2_0_T, .box a0_b (vecC (Value.int .i64) y2) a0_T] := hS
     replace h := Option.some.inj h; subst h
     obtain ⟨kq, hk1, hk2⟩ := hn1
     exact ⟨kq, hk1, _, hk2, m5, rfl, hK.only [0, 1, 2, 6], l3.trans (l4.trans l5), hS, c2re0⟩
    ·
     replace hK := hK.more (t := 54) (v' := .bool false) rfl (by rw [hb2])
     replace h := ite_f (of_decide_eq_false hb2) h
     refine wpIn_skip ?_
     refine then_n ?_
     refine w_region ?_
     refine qp 61 (.int .i64 s1.1) hK fun fr hK => ?_
     refine qp 62 (.int .i64 (IntKind.i64.wrap (s1.1 * 2))) hK fun fr hK => ?_
     refine qp 6 (.int .i64 (IntKind.i64.wrap (s1.1 * 2))) hK fun fr hK => ?_
     refine wpListIn_nil ?_
     refine blk_n ?_
     refine then_n ?_
     replace hS := hS.front 1 rfl
     replace hS := hS.front 1 rfl
     replace hS : St _ m m4 [.box a2_0_b #[.slice a2_0_a a2.length a2_0_c] a2_0_T, .box a0_b (vecC (Value.int .i64) v2.2) a0_T] := hS
     replace h := Option.some.inj h; subst h
     obtain ⟨kq, hk1, hk2⟩ := hn1
     exact ⟨kq, hk1, _, hk2, m4, rfl, hK.only [0, 1, 2, 6], l3.trans l4, hS, hq3⟩
   ·
    replace h := hv2; clear hv2
    refine wpIn_block ?_
    replace hS := hS.front 1 rfl
    replace hS := hS.front 1 rfl
    replace hS : St _ m m3 [.box a2_0_b #[.slice a2_0_a a2.length a2_0_c] a2_0_T, .box a0_b (vecC (Value.int .i64) s1.2) a0_T] := hS
    refine w_loopL h (fun (s2 : Int × Int × (List Int)) fr ww => ∃ m6 : Mem, m6.w = ww ∧ Kn 63 fr [(0, .slice (some ⟨a0_b, 0, none⟩) a0.length a0.length), (1, .int .i64 a1), (2, .func (.func 96) #[] #[.pointer (some ⟨a2_0_b, 0, none⟩)]), (6, .int .i64 s1.1), (7, .int .i64 s2.1), (8, .int .i64 s2.2.1)] ∧ Le m3 m6 ∧ St (blocksOf [.box a0_b (vecC (Value.int .i64) a0) a0_T, .box a2_0_b #[.slice a2_0_a a2.length a2_0_c] a2_0_T]) m m6 [.box a2_0_b #[.slice a2_0_a a2.length a2_0_c] a2_0_T, .box a0_b (vecC (Value.int .i64) s2.2.2) a0_T] ∧ s2.2.2.length = a0.length) ?_ ?_
    · exact ⟨m3, rfl, hK.only [0, 1, 2, 6, 7, 8], Le.refl _, hS, hq2⟩
    clear hK hS fr h
    rintro k2 s2 x2 fr _ ⟨m6, rfl, hK, l6, hS, hq4⟩ h hn2
    unfold G.slices_stableCmpFunc_int_v0_delta_sorted_1_l2 at h
    refine w_seq ?_
    refine w_seq (w_region ?_)
    refine qp 33 (.int .i64 s2.2.1) hK fun fr hK => ?_
    refine qp 34 (.int .i64 a1) hK fun fr hK => ?_
    refine qp 35 (.bool (decide (s2.2.1 ≤ a1))) hK fun fr hK => ?_
    refine wpListIn_nil (then_n ?_)
    refine w_cond hK rfl (fun hb3 => ?_) (fun hb3 => ?_)
    ·
     replace hK := hK.more (t := 35) (v' := .bool true) rfl (by rw [hb3])
     replace h := ite_t (of_decide_eq_true hb3) h
     refine wpIn_skip ?_
     refine then_n ?_
     refine wpIn_block ?_
     refine w_seq (w_region ?_)
     refine qp 36 (.slice (some ⟨a0_b, 0, none⟩) a0.length a0.length) hK fun fr hK => ?_
     refine qp 37 (.int .i64 s2.1) hK fun fr hK => ?_
     refine qp 38 (.int .i64 s2.1) hK fun fr hK => ?_
     refine qp 39 (.int .i64 s1.1) hK fun fr hK => ?_
     refine qp 40 (.int .i64 (IntKind.i64.wrap (s2.1 + s1.1))) hK fun fr hK => ?_
     refine qp 41 (.int .i64 s2.2.1) hK fun fr hK => ?_
     refine qp 42 (.func (.func 96) #[] #[.pointer (some ⟨a2_0_b, 0, none⟩)]) hK fun fr hK => ?_
     replace a2_0_f := Els.mono rep_G_Command a2_0_f (l2.trans (l3.trans l6))
     obtain ⟨y3, hy3, h⟩ := bind_some h
     replace hS := hS.front 1 rfl
     replace hS : St _ m m6 [.box a0_b (vecC (Value.int .i64) s2.2.2) a0_T, .box a2_0_b #[.slice a2_0_a a2.length a2_0_c] a2_0_T] := hS
     refine qo 43 hK (s_callM (R := [.box a0_b (vecC (Value.int .i64) s2.2.2) a0_T, .box a2_0_b #[.slice a2_0_a a2.length a2_0_c] a2_0_T]) (L := []) hK.at_ hS ent113_1 rfl rfl rfl rfl (G.slices_symMergeCmpFunc_int_v0_delta_sorted_1_spec hq4 a2_0_f hy3 (Ow.left (L := [.box a0_b (vecC (Value.int .i64) s2.2.2) a0_T, .box a2_0_b #[.slice a2_0_a a2.length a2_0_c] a2_0_T]) hS.ow)) (by kernel_rfl) ?_)
     clear hK fr hS; rintro _ m7 _ l7 hS ⟨rfl, rfl, c3re0⟩ fr hK
     replace hS : St _ m m7 [.box a0_b (vecC (Value.int .i64) y3) a0_T, .box a2_0_b #[.slice a2_0_a a2.length a2_0_c] a2_0_T] := hS
     refine wpListIn_nil (then_n ?_)
     refine w_seq (w_region ?_)
     refine qp 44 (.int .i64 s2.2.1) hK fun fr hK => ?_
     refine qp 7 (.int .i64 s2.2.1) hK fun fr hK => ?_
     refine wpListIn_nil (then_n ?_)
     refine w_region ?_
     refine qp 45 (.int .i64 s2.2.1) hK fun fr hK => ?_
     refine qp 46 (.int .i64 s1.1) hK fun fr hK => ?_
     refine qp 47 (.int .i64 (IntKind.i64.wrap (2 * s1.1))) hK fun fr hK => ?_
     refine qp 48 (.int .i64 (IntKind.i64.wrap (s2.2.1 + (IntKind.i64.wrap (2 * s1.1))))) hK fun fr hK => ?_
     refine qp 8 (.int .i64 (IntKind.i64.wrap (s2.2.1 + (IntKind.i64.wrap (2 * s1.1))))) hK fun fr hK => ?_
     refine wpListIn_nil ?_
     refine blk_n ?_
     refine then_n ?_
     replace hS := hS.front 1 rfl
     replace hS : St _ m m7 [.box a2_0_b #[.slice a2_0_a a2.length a2_0_c] a2_0_T, .box a0_b (vecC (Value.int .i64) y3) a0_T] := hS
     replace h := Option.some.inj h; subst h
     obtain ⟨kq, hk1, hk2⟩ := hn2
     exact ⟨kq, hk1, _, hk2, m7, rfl, hK.only [0, 1, 2, 6, 7, 8], l6.trans l7, hS, c3re0⟩
    ·
     replace hK := hK.more (t := 35) (v' := .bool false) rfl (by rw [hb3])
     replace h := ite_f (of_decide_eq_false hb3) h
     refine wpIn_exit ?_
     refine then_x ?_
     refine then_x ?_
     refine blk_e ?_
     refine then_n ?_
     replace hS := hS.front 1 rfl
     replace hS := hS.front 1 rfl
     replace hS : St _ m m6 [.box a2_0_b #[.slice a2_0_a a2.length a2_0_c] a2_0_T, .box a0_b (vecC (Value.int .i64) s2.2.2) a0_T] := hS
     replace h := Option.some.inj h; subst h
     replace h := Option.some.inj (loop_out hn2); subst h
     exact ⟨m6, rfl, hK.only [0, 1, 2, 6, 7], l6, hS, hq4⟩
  ·
   replace hK := hK.more (t := 30) (v' := .bool false) rfl (by rw [hb1])
   replace h := ite_f (of_decide_eq_false hb1) h
   refine wpIn_exit ?_
   refine then_x ?_
   refine then_x ?_
   refine blk_e ?_
   replace h := Option.some.inj h; subst h
   replace h := Option.some.inj (loop_out hn1); subst h
   replace hS := hS.front 1 rfl
   replace hS : St _ m m3 [.box a0_b (vecC (Value.int .i64) s1.2) a0_T, .box a2_0_b #[.slice a2_0_a a2.length a2_0_c] a2_0_T] := hS
   refine end_of [] [] rfl hK .nil hS ?_
   exact ⟨rfl, rfl, hq2⟩
 ·
  replace h := hv1; clear hv1
  refine wpIn_block ?_
  replace hS := hS.front 1 rfl
  replace hS : St _ m m [.box a2_0_b #[.slice a2_0_a a2.length a2_0_c] a2_0_T, .box a0_b (vecC (Value.int .i64) a0) a0_T] := hS
  refine w_loopL h (fun (s3 : Int × Int × (List Int)) fr ww => ∃ m8 : Mem, m8.w = ww ∧ Kn 63 fr [(0, .slice (some ⟨a0_b, 0, none⟩) a0.length a0.length), (1, .int .i64 a1), (2, .func (.func 96) #[] #[.pointer (some ⟨a2_0_b, 0, none⟩)]), (6, .int .i64 20), (7, .int .i64 s3.1), (8, .int .i64 s3.2.1)] ∧ Le m m8 ∧ St (blocksOf [.box a0_b (vecC (Value.int .i64) a0) a0_T, .box a2_0_b #[.slice a2_0_a a2.length a2_0_c] a2_0_T]) m m8 [.box a2_0_b #[.slice a2_0_a a2.length a2_0_c] a2_0_T, .box a0_b (vecC (Value.int .i64) s3.2.2) a0_T] ∧ s3.2.2.length = a0.length) ?_ ?_
  · exact ⟨m, rfl, hK.only [0, 1, 2, 6, 7, 8], Le.refl _, hS, rfl⟩
  clear hK hS fr h
  rintro k3 s3 x3 fr _ ⟨m8, rfl, hK, l8, hS, hq5⟩ h hn3
  unfold G.slices_stableCmpFunc_int_v0_delta_sorted_1_l3 at h
  refine w_seq ?_
  refine w_seq (w_region ?_)
  refine qp 11 (.int .i64 s3.2.1) hK fun fr hK => ?_
  refine qp 12 (.int .i64 a1) hK fun fr hK => ?_
  refine qp 13 (.bool (decide (s3.2.1 ≤ a1))) hK fun fr hK => ?_
  refine wpListIn_nil (then_n ?_)
  refine w_cond hK rfl (fun hb4 => ?_) (fun hb4 => ?_)
  ·
   replace hK := hK.more (t := 13) (v' := .bool true) rfl (by rw [hb4])
   replace h := ite_t (of_decide_eq_true hb4) h
   refine wpIn_skip ?_
   refine then_n ?_
   refine wpIn_block ?_
   refine w_seq (w_region ?_)
   refine qp 14 (.slice (some ⟨a0_b, 0, none⟩) a0.length a0.length) hK fun fr hK => ?_
   refine qp 15 (.int .i64 s3.1) hK fun fr hK => ?_
   refine qp 16 (.int .i64 s3.2.1) hK fun fr hK => ?_
   refine qp 17 (.func (.func 96) #[] #[.pointer (some ⟨a2_0_b, 0, none⟩)]) hK fun fr hK => ?_
   replace a2_0_f := Els.mono rep_G_Command a2_0_f l8
   obtain ⟨y4, hy4, h⟩ := bind_some h
   replace hS := hS.front 1 rfl
   replace hS : St _ m m8 [.box a0_b (vecC (Value.int .i64) s3.2.2) a0_T, .box a2_0_b #[.slice a2_0_a a2.length a2_0_c] a2_0_T] := hS
   refine qo 18 hK (s_callM (R := [.box a0_b (vecC (Value.int .i64) s3.2.2) a0_T, .box a2_0_b #[.slice a2_0_a a2.length a2_0_c] a2_0_T]) (L := []) hK.at_ hS ent112_1 rfl rfl rfl rfl (G.slices_insertionSortCmpFunc_int_v0_delta_sorted_1_spec hq5 a2_0_f hy4 (Ow.left (L := [.box a0_b (vecC (Value.int .i64) s3.2.2) a0_T, .box a2_0_b #[.slice a2_0_a a2.length a2_0_c] a2_0_T]) hS.ow)) (by kernel_rfl) ?_)
   clear hK fr hS; rintro _ m9 _ l9 hS ⟨rfl, rfl, c4re0⟩ fr hK
   replace hS : St _ m m9 [.box a0_b (vecC (Value.int .i64) y4) a0_T, .box a2_0_b #[.slice a2_0_a a2.length a2_0_c] a2_0_T] := hS
   refine wpListIn_nil (then_n ?_)
   refine w_seq (w_region ?_)
   refine qp 19 (.int .i64 s3.2.1) hK fun fr hK => ?_
   refine qp 7 (.int .i64 s3.2.1) hK fun fr hK => ?_
   refine wpListIn_nil (then_n ?_)
   refine w_region ?_
   refine qp 20 (.int .i64 s3.2.1) hK fun fr hK => ?_
   refine qp 21 (.int .i64 20) hK fun fr hK => ?_
   refine qp 22 (.int .i64 (IntKind.i64.wrap (s3.2.1 + 20))) hK fun fr hK => ?_
   refine qp 8 (.int .i64 (IntKind.i64.wrap (s3.2.1 + 20))) hK fun fr hK => ?_
   refine wpListIn_nil ?_
   refine blk_n ?_
   refine then_n ?_
   replace hS := hS.front 1 rfl
   replace hS : St _ m m9 [.box a2_0_b #[.slice a2_0_a a2.length a2_0_c] a2_0_T, .box a0_b (vecC (Value.int .i64) y4) a0_T] := hS
   replace h := Option.some.inj h; subst h
   obtain ⟨kq, hk1, hk2⟩ := hn3
   exact ⟨kq, hk1, _, hk2, m9, rfl, hK.only [0, 1, 2, 6, 7, 8], l8.trans l9, hS, c4re0⟩
  ·
   replace hK := hK.more (t := 13) (v' := .bool false) rfl (by rw [hb4])
   replace h := ite_f (of_decide_eq_false hb4) h
   refine wpIn_exit ?_
   refine then_x ?_
   refine then_x ?_
   refine blk_e ?_
   refine then_n ?_
   replace hS := hS.front 1 rfl
   replace hS := hS.front 1 rfl
   replace hS : St _ m m8 [.box a2_0_b #[.slice a2_0_a a2.length a2_0_c] a2_0_T, .box a0_b (vecC (Value.int .i64) s3.2.2) a0_T] := hS
   replace h := Option.some.inj h; subst h
   replace h := Option.some.inj (loop_out hn3); subst h
   exact ⟨m8, rfl, hK.only [0, 1, 2, 6, 7], l8, hS, hq5⟩
set_option maxRecDepth 100000 in
set_option maxHeartbeats 1000000 in
theorem G.slices_SortStableFunc_int_int_v0_delta_sorted_1_spec {m : Mem} {a0 : List Int} {a0_b : Nat} {a0_T : TypeId} {a0_n : Nat} (a0_l : a0.length = a0_n) {a1 : (List G.Command)} {a1_0_b : Nat} {a1_0_a : Option Addr} {a1_0_c : Nat} {a1_0_T : TypeId} (a1_0_f : Els is_G_Command m 5 a1_0_a a1_0_c a1) {r : (List Int)} (h : G.slices_SortStableFunc_int_int_v0_delta_sorted_1 a0 a1 = some r) (hO : Ow m [.box a0_b (vecC (Value.int .i64) a0) a0_T, .box a1_0_b #[.slice a1_0_a a1.length a1_0_c] a1_0_T]) :
  Spec Try.prog 95 #[.slice (some ⟨a0_b, 0, none⟩) a0_n a0_n, .func (.func 96) #[] #[.pointer (some ⟨a1_0_b, 0, none⟩)]] m [.box a0_b (vecC (Value.int .i64) a0) a0_T, .box a1_0_b #[.slice a1_0_a a1.length a1_0_c] a1_0_T] fun v m' L => L = [.box a0_b (vecC (Value.int .i64) r) a0_T, .box a1_0_b #[.slice a1_0_a a1.length a1_0_c] a1_0_T] ∧ v = .tuple #[] ∧ r.length = a0_n := by
 subst a0_l
 unfold G.slices_SortStableFunc_int_int_v0_delta_sorted_1 at h
 refine enter (args := [_, _]) 9 Try.func95 rfl rfl (by simp) fun fr hK => ?_
 have hS := St.refl (hO)
 replace hK : Kn 9 fr [(0, .slice (some ⟨a0_b, 0, none⟩) a0.length a0.length), (1, .func (.func 96) #[] #[.pointer (some ⟨a1_0_b, 0, none⟩)])] := hK
 refine w_region ?_
 refine qp 4 (.slice (some ⟨a0_b, 0, none⟩) a0.length a0.length) hK fun fr hK => ?_
 refine qp 5 (.slice (some ⟨a0_b, 0, none⟩) a0.length a0.length) hK fun fr hK => ?_
 refine qp 6 (.int .i64 (a0.length : Int)) hK fun fr hK => ?_
 refine qp 7 (.func (.func 96) #[] #[.pointer (some ⟨a1_0_b, 0, none⟩)]) hK fun fr hK => ?_
 obtain ⟨y1, hy1, h⟩ := bind_some h
 replace hS := hS.front 1 rfl
 replace hS := hS.front 1 rfl
 replace hS : St _ m m [.box a0_b (vecC (Value.int .i64) a0) a0_T, .box a1_0_b #[.slice a1_0_a a1.length a1_0_c] a1_0_T] := hS
 refine qo 8 hK (s_callM (R := [.box a0_b (vecC (Value.int .i64) a0) a0_T, .box a1_0_b #[.slice a1_0_a a1.length a1_0_c] a1_0_T]) (L := []) hK.at_ hS ent108_1 rfl rfl rfl rfl (G.slices_stableCmpFunc_int_v0_delta_sorted_1_spec rfl a1_0_f hy1 (Ow.left (L := [.box a0_b (vecC (Value.int .i64) a0) a0_T, .box a1_0_b #[.slice a1_0_a a1.length a1_0_c] a1_0_T]) hS.ow)) (by kernel_rfl) ?_)
 clear hK fr hS; rintro _ m1 _ l1 hS ⟨rfl, rfl, c1re0⟩ fr hK
 replace hS : St _ m m1 [.box a0_b (vecC (Value.int .i64) y1) a0_T, .box a1_0_b #[.slice a1_0_a a1.length a1_0_c] a1_0_T] := hS
 refine wpListIn_nil ?_
 replace h := Option.some.inj h; subst h
 replace hS := hS.front 1 rfl
 replace hS := hS.front 1 rfl
 replace hS : St _ m m1 [.box a0_b (vecC (Value.int .i64) y1) a0_T, .box a1_0_b #[.slice a1_0_a a1.length a1_0_c] a1_0_T] := hS
 refine end_of [] [] rfl hK .nil hS ?_
 exact ⟨rfl, rfl, c1re0⟩
set_option maxRecDepth 100000 in
set_option maxHeartbeats 1000000 in
theorem G.delta_sorted_spec {m : Mem} {a0 : List G.Command} {a0_a : Option Addr} {a0_c : Nat} (a0_f : Els is_G_Command m 5 a0_a a0_c a0) {r : ((List Int) × (List G.Command))} (h : G.delta_sorted a0 = some r) :
  Spec Try.prog 70 #[.slice a0_a a0.length a0_c] m [] fun v m' L => ∃ (r0_0_b : Nat) (r0_0_a : Option Addr) (r0_0_c : Nat) (r0_1_b : Nat) (r0_1_a : Option Addr) (r0_1_c : Nat), L = [.box r0_0_b #[.slice r0_0_a r.1.length r0_0_c] 124, .box r0_1_b #[.slice r0_1_a r.2.length r0_1_c] 25] ∧ v = .func (.func 98) #[] #[.pointer (some ⟨r0_0_b, 0, none⟩), .pointer (some ⟨r0_1_b, 0, none⟩)] ∧ Els (isNum .i64) m' 1 r0_0_a r0_0_c r.1 ∧ Els is_G_Command m' 5 r0_1_a r0_1_c r.2 := by
 unfold G.delta_sorted at h
 refine enter (args := [_]) 22 Try.func70 rfl rfl (by simp) fun fr hK => ?_
 have hS := St.refl (Ow.nil m)
 replace hK : Kn 22 fr [(0, .slice a0_a a0.length a0_c)] := hK
 refine w_seq (w_region ?_)
 refine qo 1 hK (s_box hK.at_ hS rfl rfl ?_)
 clear hK fr hS; intro m1 b1 b1z l1 hS fr hK
 replace hS : St _ m m1 [.box b1 #[.slice a0_a a0.length a0_c] 25] := hS
 refine qp 2 (.nilFunc) hK fun fr hK => ?_
 refine wpListIn_nil (then_n ?_)
 refine w_seq (w_region ?_)
 refine qo 5 hK (s_load hK.at_ hS 0 rfl rfl rfl rfl (by kernel_rfl) ?_)
 clear hK fr; intro fr hK
 refine qp 6 (.int .i64 (a0.length : Int)) hK fun fr hK => ?_
 obtain ⟨y1, hy1, h⟩ := bind_some h
 refine qo 7 hK (s_makeVec (n := a0.length) (Value.int .i64) 0 elT124_1 rfl hK.at_ hS rfl rfl rfl (by have := chk_some hy1; omega) (by have := chk_some hy1; omega) (by decide) ?_)
 clear hK fr hS; intro m2 b2 b2z l2 hS fr hK
 refine qo 3 hK (s_alloc (.slice none 0 0) hK.at_ hS rfl (by kernel_rfl) ?_)
 clear hK fr hS; intro m3 b3 b3z l3 hS fr hK
 replace hS : St _ m m3 [.box b3 #[.slice none 0 0] 124, .box b2 (vecC (Value.int .i64) (List.replicate a0.length 0)) 3, .box b1 #[.slice a0_a a0.length a0_c] 25] := hS
 refine qo0 hK (s_store hK.at_ 0 hS rfl rfl rfl rfl (by kernel_rfl) (by kernel_rfl) (by kernel_rfl) ?_)
 clear hK fr hS; intro m4 l4 hS fr hK
 replace hS : St _ m m4 [.box b3 #[.slice (some ⟨b2, 0, none⟩) a0.length a0.length] 124, .box b2 (vecC (Value.int .i64) (List.replicate a0.length 0)) 3, .box b1 #[.slice a0_a a0.length a0_c] 25] := hS
 refine wpListIn_nil (then_n ?_)
 refine w_seq ?_
 refine w_seq (w_region ?_)
 refine qo 8 hK (s_load hK.at_ hS 0 rfl rfl rfl rfl (by kernel_rfl) ?_)
 clear hK fr; intro fr hK
 refine qp 9 (.int .i64 (a0.length : Int)) hK fun fr hK => ?_
 refine qp 10 (.int .i64 0) hK fun fr hK => ?_
 refine wpListIn_nil (then_n ?_)
 obtain ⟨v1, hv1, h⟩ := bind_some h
 refine w_join (fun fr ww => ∃ m5 : Mem, m5.w = ww ∧ Kn 22 fr [(1, .pointer (some ⟨b1, 0, none⟩)), (3, .pointer (some ⟨b3, 0, none⟩))] ∧ Le m4 m5 ∧ St (blocksOf []) m m5 [.box b3 #[.slice (some ⟨b2, 0, none⟩) a0.length a0.length] 124, .box b1 #[.slice a0_a a0.length a0_c] 25, .box b2 (vecC (Value.int .i64) v1) 3] ∧ v1.length = a0.length) ?_ ?_
 ·
  clear hK hS fr hv1
  rintro fr _ ⟨m5, rfl, hK, l5, hS, hq1⟩
  refine then_n ?_
  refine w_seq (w_region ?_)
  refine qo 18 hK (s_load hK.at_ hS 0 rfl rfl rfl rfl (by kernel_rfl) ?_)
  clear hK fr; intro fr hK
  refine qp 19 (.func (.func 96) #[] #[.pointer (some ⟨b1, 0, none⟩)]) hK fun fr hK => ?_
  replace a0_f := Els.mono rep_G_Command a0_f (l1.trans (l2.trans (l3.trans (l4.trans l5))))
  obtain ⟨y2, hy2, h⟩ := bind_some h
  replace hS := hS.front 1 rfl
  replace hS := hS.front 2 rfl
  replace hS : St _ m m5 [.box b2 (vecC (Value.int .i64) v1) 3, .box b1 #[.slice a0_a a0.length a0_c] 25, .box b3 #[.slice (some ⟨b2, 0, none⟩) a0.length a0.length] 124] := hS
  refine qo 20 hK (s_callM (R := [.box b2 (vecC (Value.int .i64) v1) 3, .box b1 #[.slice a0_a a0.length a0_c] 25]) (L := [.box b3 #[.slice (some ⟨b2, 0, none⟩) a0.length a0.length] 124]) hK.at_ hS ent95_1 rfl rfl rfl rfl (G.slices_SortStableFunc_int_int_v0_delta_sorted_1_spec hq1 a0_f hy2 (Ow.left (L := [.box b2 (vecC (Value.int .i64) v1) 3, .box b1 #[.slice a0_a a0.length a0_c] 25]) hS.ow)) (by kernel_rfl) ?_)
  clear hK fr hS; rintro _ m6 _ l6 hS ⟨rfl, rfl, c1re0⟩ fr hK
  replace hS : St _ m m6 [.box b2 (vecC (Value.int .i64) y2) 3, .box b1 #[.slice a0_a a0.length a0_c] 25, .box b3 #[.slice (some ⟨b2, 0, none⟩) a0.length a0.length] 124] := hS
  refine wpListIn_nil (then_n ?_)
  refine w_seq (w_region ?_)
  refine qp 21 (.func (.func 98) #[] #[.pointer (some ⟨b3, 0, none⟩), .pointer (some ⟨b1, 0, none⟩)]) hK fun fr hK => ?_
  refine qp 2 (.func (.func 98) #[] #[.pointer (some ⟨b3, 0, none⟩), .pointer (some ⟨b1, 0, none⟩)]) hK fun fr hK => ?_
  refine wpListIn_nil (then_n ?_)
  refine wpIn_ret ?_
  obtain ⟨m7, hw_, l7, hS, hA1⟩ := hS.freeze; rw [← hw_]; clear hw_
  obtain ⟨y3, hy3, h⟩ := bind_some h
  have f1 := els_vec (rep_Num .i64) (Value.int .i64) (fun _ _ => rfl) hA1 (Nat.le_trans (chk_some hy3) (by decide))
  replace hS : St _ m m7 [.box b1 #[.slice a0_a a0.length a0_c] 25, .box b3 #[.slice (some ⟨b2, 0, none⟩) a0.length a0.length] 124] := hS
  replace hK : Kn 22 fr [(2, .func (.func 98) #[] #[.pointer (some ⟨b3, 0, none⟩), .pointer (some ⟨b1, 0, none⟩)]), (21, .func (.func 98) #[] #[.pointer (some ⟨b3, 0, none⟩), .pointer (some ⟨b1, 0, none⟩)]), (20, .tuple #[]), (19, .func (.func 96) #[] #[.pointer (some ⟨b1, 0, none⟩)]), (18, .slice (some ⟨b2, 0, none⟩) y2.length y2.length), (1, .pointer (some ⟨b1, 0, none⟩)), (3, .pointer (some ⟨b3, 0, none⟩))] := by rw [c1re0]; (try rw [c1re0] at hK); exact hK
  replace hS : St (blocksOf []) m m7 [.box b1 #[.slice a0_a a0.length a0_c] 25, .box b3 #[.slice (some ⟨b2, 0, none⟩) y2.length y2.length] 124] := by rw [c1re0]; (try rw [c1re0] at hS); exact hS
  replace a0_f := Els.mono rep_G_Command a0_f (l6.trans l7)
  replace h := Option.some.inj h; subst h
  replace hS := hS.front 1 rfl
  replace hS : St _ m m7 [.box b3 #[.slice (some ⟨b2, 0, none⟩) y2.length y2.length] 124, .box b1 #[.slice a0_a a0.length a0_c] 25] := hS
  refine ret_of [.tmp 2] [.func (.func 98) #[] #[.pointer (some ⟨b3, 0, none⟩), .pointer (some ⟨b1, 0, none⟩)]] rfl hK (.tmp rfl .nil) hS ?_
  exact ⟨b3, (some ⟨b2, 0, none⟩), y2.length, b1, a0_a, a0_c, rfl, rfl, f1, a0_f⟩
 ·
  replace h := hv1; clear hv1
  refine wpIn_block ?_
  replace hS := hS.front 1 rfl
  replace hS := hS.front 2 rfl
  replace hS := hS.front 2 rfl
  replace hS : St _ m m4 [.box b3 #[.slice (some ⟨b2, 0, none⟩) a0.length a0.length] 124, .box b1 #[.slice a0_a a0.length a0_c] 25, .box b2 (vecC (Value.int .i64) (List.replicate a0.length 0)) 3] := hS
  refine w_loopL h (fun (s1 : Int × (List Int)) fr ww => ∃ m8 : Mem, m8.w = ww ∧ Kn 22 fr [(1, .pointer (some ⟨b1, 0, none⟩)), (3, .pointer (some ⟨b3, 0, none⟩)), (9, .int .i64 (a0.length : Int)), (10, .int .i64 s1.1)] ∧ Le m4 m8 ∧ St (blocksOf []) m m8 [.box b3 #[.slice (some ⟨b2, 0, none⟩) a0.length a0.length] 124, .box b1 #[.slice a0_a a0.length a0_c] 25, .box b2 (vecC (Value.int .i64) s1.2) 3] ∧ s1.2.length = a0.length) ?_ ?_
  · exact ⟨m4, rfl, hK.only [1, 3, 9, 10], Le.refl _, hS, (List.length_replicate)⟩
  clear hK hS fr h
  rintro k1 s1 x1 fr _ ⟨m8, rfl, hK, l8, hS, hq2⟩ h hn1
  unfold G.delta_sorted_l1 at h
  refine w_seq (w_region ?_)
  refine qp 11 (.bool (decide (s1.1 < (a0.length : Int)))) hK fun fr hK => ?_
  refine wpListIn_nil (then_n ?_)
  refine w_seq ?_
  refine w_cond hK rfl (fun hb1 => ?_) (fun hb1 => ?_)
  ·
   replace hK := hK.more (t := 11) (v' := .bool true) rfl (by rw [hb1])
   replace h := ite_t (of_decide_eq_true hb1) h
   refine wpIn_skip ?_
   refine then_n ?_
   refine w_seq ?_
   refine wpIn_block ?_
   refine w_seq (w_region ?_)
   refine qp 12 (.int .i64 s1.1) hK fun fr hK => ?_
   refine qp 4 (.int .i64 s1.1) hK fun fr hK => ?_
   refine wpListIn_nil (then_n ?_)
   refine w_region ?_
   refine qo 13 hK (s_load hK.at_ hS 0 rfl rfl rfl rfl (by kernel_rfl) ?_)
   clear hK fr; intro fr hK
   refine qp 14 (.int .i64 s1.1) hK fun fr hK => ?_
   refine qp 15 (.int .i64 s1.1) hK fun fr hK => ?_
   obtain ⟨x2, hy4, h⟩ := bind_some h
   obtain ⟨j1, hj1, hl1, hx1⟩ := idx_ok hy4
   refine qo 16 hK (s_indexV elT124_1 j1 hK.at_ rfl rfl rfl hj1 (Nat.lt_of_lt_of_eq hl1 hq2) ?_)
   clear hK fr; intro fr hK
   refine qo0 hK (s_storeV (Value.int .i64) (l := s1.2) (j := j1) s1.1 hK.at_ 2 hS rfl rfl rfl rfl (by kernel_rfl) rfl hl1 ?_)
   clear hK fr hS; intro m9 l9 hS fr hK
   have hz1 : j1 = s1.1.toNat := by rw [hj1]; rfl
   have hz2 : (s1.2.set s1.1.toNat s1.1).length = a0.length := (List.length_set ..).trans hq2
   replace hS : St (blocksOf []) m m9 [.box b2 (vecC (Value.int .i64) (s1.2.set s1.1.toNat s1.1)) 3, .box b3 #[.slice (some ⟨b2, 0, none⟩) a0.length a0.length] 124, .box b1 #[.slice a0_a a0.length a0_c] 25] := by rw [← hz1]; exact hS
   refine wpListIn_nil ?_
   refine blk_n ?_
   refine then_n ?_
   refine w_region ?_
   refine qp 17 (.int .i64 (IntKind.i64.wrap (s1.1 + 1))) hK fun fr hK => ?_
   refine qp 10 (.int .i64 (IntKind.i64.wrap (s1.1 + 1))) hK fun fr hK => ?_
   refine wpListIn_nil (then_n ?_)
   replace hS := hS.front 2 rfl
   replace hS := hS.front 2 rfl
   replace hS : St _ m m9 [.box b3 #[.slice (some ⟨b2, 0, none⟩) a0.length a0.length] 124, .box b1 #[.slice a0_a a0.length a0_c] 25, .box b2 (vecC (Value.int .i64) (s1.2.set s1.1.toNat s1.1)) 3] := hS
   replace h := Option.some.inj h; subst h
   obtain ⟨kq, hk1, hk2⟩ := hn1
   exact ⟨kq, hk1, _, hk2, m9, rfl, hK.only [1, 3, 9, 10], l8.trans l9, hS, hz2⟩
  ·
   replace hK := hK.more (t := 11) (v' := .bool false) rfl (by rw [hb1])
   replace h := ite_f (of_decide_eq_false hb1) h
   refine wpIn_exit ?_
   refine then_x ?_
   refine then_x ?_
   refine blk_e ?_
   refine then_n ?_
   replace hS := hS.front 2 rfl
   replace hS := hS.front 2 rfl
   replace hS := hS.front 2 rfl
   replace hS : St _ m m8 [.box b3 #[.slice (some ⟨b2, 0, none⟩) a0.length a0.length] 124, .box b1 #[.slice a0_a a0.length a0_c] 25, .box b2 (vecC (Value.int .i64) s1.2) 3] := hS
   replace h := Option.some.inj h; subst h
   replace h := Option.some.inj (loop_out hn1); subst h
   exact ⟨m8, rfl, hK.only [1, 3], l8, hS, hq2⟩
set_option maxRecDepth 100000 in
set_option maxHeartbeats 1000000 in
theorem G.delta_tiles_spec {m : Mem} {a0 : List G.Command} {a0_a : Option Addr} {a0_c : Nat} (a0_f : Els is_G_Command m 5 a0_a a0_c a0) {r : Int × Bool} (h : G.delta_tiles a0 = some r) :
  Spec Try.prog 67 #[.slice a0_a a0.length a0_c] m [] fun v m' L => L = [] ∧ v = .tuple #[.int .i64 r.1, .bool r.2] := by
 unfold G.delta_tiles at h
 refine enter (args := [_]) 31 Try.func67 rfl rfl (by simp) fun fr hK => ?_
 have hS := St.refl (Ow.nil m)
 replace hK : Kn 31 fr [(0, .slice a0_a a0.length a0_c)] (dms []) := hK
 replace hS := hS.defs0
 refine w_seq (w_region ?_)
 refine qo 2 hK (s_alloc (.int .i64 0) hK.at_ hS rfl (by kernel_rfl) ?_)
 clear hK fr hS; intro m1 b1 b1z l1 hS fr hK
 refine qo 3 hK (s_alloc (.bool false) hK.at_ hS rfl (by kernel_rfl) ?_)
 clear hK fr hS; intro m2 b2 b2z l2 hS fr hK
 replace hS : St _ m m2 [.box b2 #[.bool false] 4, .box b1 #[.int .i64 0] 3, .defs []] := hS
 refine wpListIn_nil (then_n ?_)
 refine w_seq (w_region ?_)
 refine qo 4 hK (s_alloc (.int .i64 0) hK.at_ hS rfl (by kernel_rfl) ?_)
 clear hK fr hS; intro m3 b3 b3z l3 hS fr hK
 refine qo 5 hK (s_alloc (.int .i64 0) hK.at_ hS rfl (by kernel_rfl) ?_)
 clear hK fr hS; intro m4 b4 b4z l4 hS fr hK
 replace hS : St _ m m4 [.box b4 #[.int .i64 0] 3, .box b3 #[.int .i64 0] 3, .box b2 #[.bool false] 4, .box b1 #[.int .i64 0] 3, .defs []] := hS
 refine qo0 hK (s_store hK.at_ 1 hS rfl rfl rfl rfl (by kernel_rfl) (by kernel_rfl) (by kernel_rfl) ?_)
 clear hK fr hS; intro m5 l5 hS fr hK
 replace hS : St _ m m5 [.box b3 #[.int .i64 0] 3, .box b4 #[.int .i64 0] 3, .box b2 #[.bool false] 4, .box b1 #[.int .i64 0] 3, .defs []] := hS
 refine qo0 hK (s_store hK.at_ 1 hS rfl rfl rfl rfl (by kernel_rfl) (by kernel_rfl) (by kernel_rfl) ?_)
 clear hK fr hS; intro m6 l6 hS fr hK
 replace hS : St _ m m6 [.box b4 #[.int .i64 (-1)] 3, .box b3 #[.int .i64 0] 3, .box b2 #[.bool false] 4, .box b1 #[.int .i64 0] 3, .defs []] := hS
 refine wpListIn_nil (then_n ?_)
 refine w_seq ?_
 refine w_seq (w_region ?_)
 refine qp 8 (.slice a0_a a0.length a0_c) hK fun fr hK => ?_
 replace a0_f := Els.mono rep_G_Command a0_f (l1.trans (l2.trans (l3.trans (l4.trans (l5.trans l6)))))
 obtain ⟨y1, hy1, h⟩ := bind_some h
 refine qo 9 hK (s_call hK.at_ hS ent70_1 rfl rfl rfl rfl (G.delta_sorted_spec a0_f hy1) (by kernel_rfl) ?_)
 clear hK fr hS; rintro _ m7 _ l7 hS ⟨c1r0_0_b, c1r0_0_a, c1r0_0_c, c1r0_1_b, c1r0_1_a, c1r0_1_c, rfl, rfl, c1r0_0_f, c1r0_1_f⟩ fr hK
 replace hS : St _ m m7 [.box c1r0_0_b #[.slice c1r0_0_a y1.1.length c1r0_0_c] 124, .box c1r0_1_b #[.slice c1r0_1_a y1.2.length c1r0_1_c] 25, .box b4 #[.int .i64 (-1)] 3, .box b3 #[.int .i64 0] 3, .box b2 #[.bool false] 4, .box b1 #[.int .i64 0] 3, .defs []] := hS
 refine wpListIn_nil (then_n ?_)
 obtain ⟨v1, hv1, hk1⟩ := bind_some h; clear h
 refine w_join (fun fr ww => ∃ u1, v1 = .inl u1 ∧ ∃ (g1 : List Nat), ∃ m8 : Mem, m8.w = ww ∧ Kn 31 fr [(2, .pointer (some ⟨b1, 0, none⟩)), (3, .pointer (some ⟨b2, 0, none⟩)), (4, .pointer (some ⟨b3, 0, none⟩)), (5, .pointer (some ⟨b4, 0, none⟩))] (dms g1) ∧ Le m7 m8 ∧ St (blocksOf []) m m8 [.box b4 #[.int .i64 u1.1] 3, .box b3 #[.int .i64 u1.2] 3, .box b2 #[.bool false] 4, .box b1 #[.int .i64 0] 3, .defs g1]) ?_ ?_
 ·
  clear hK hS fr
  rintro fr _ ⟨u1, rfl, g1, m8, rfl, hK, l8, hS⟩
  have h := join_in hk1
  refine then_n ?_
  refine w_seq ?_
  refine w_seq (w_region ?_)
  refine qo 27 hK (s_load hK.at_ hS 0 rfl rfl rfl rfl (by kernel_rfl) ?_)
  clear hK fr; intro fr hK
  refine qp 28 (.bool (decide (u1.1 ≥ 0))) hK fun fr hK => ?_
  refine wpListIn_nil (then_n ?_)
  refine w_cond hK rfl (fun hb1 => ?_) (fun hb1 => ?_)
  ·
   replace hK := hK.more (t := 28) (v' := .bool true) rfl (by rw [hb1])
   replace h := ite_t (of_decide_eq_true hb1) h
   refine w_seq (w_region ?_)
   refine qo 29 hK (s_load hK.at_ hS 0 rfl rfl rfl rfl (by kernel_rfl) ?_)
   clear hK fr; intro fr hK
   refine qo0 hK (s_store hK.at_ 3 hS rfl rfl rfl rfl (by kernel_rfl) (by kernel_rfl) (by kernel_rfl) ?_)
   clear hK fr hS; intro m9 l9 hS fr hK
   replace hS : St _ m m9 [.box b1 #[.int .i64 u1.1] 3, .box b4 #[.int .i64 u1.1] 3, .box b3 #[.int .i64 u1.2] 3, .box b2 #[.bool false] 4, .defs g1] := hS
   refine qo0 hK (s_store hK.at_ 3 hS rfl rfl rfl rfl (by kernel_rfl) (by kernel_rfl) (by kernel_rfl) ?_)
   clear hK fr hS; intro m10 l10 hS fr hK
   replace hS : St _ m m10 [.box b2 #[.bool false] 4, .box b1 #[.int .i64 u1.1] 3, .box b4 #[.int .i64 u1.1] 3, .box b3 #[.int .i64 u1.2] 3, .defs g1] := hS
   refine wpListIn_nil (then_n ?_)
   refine wpIn_ret ?_
   refine then_r ?_
   refine ret_marks 4 hK hS rfl ?_
   clear hK fr hS; intro m11 l11 hS fr hK
   replace hS : St _ m m11 [.box b2 #[.bool false] 4, .box b1 #[.int .i64 u1.1] 3, .box b4 #[.int .i64 u1.1] 3, .box b3 #[.int .i64 u1.2] 3] := hS
   replace h := Option.some.inj h; subst h
   refine ret_of [.cell 2 3, .cell 3 4] [.int .i64 u1.1, .bool false] rfl hK (ResL.box1 hS 1 rfl rfl rfl (by kernel_rfl) (ResL.box1 hS 0 rfl rfl rfl (by kernel_rfl) .nil)) hS.dropAll ?_
   exact ⟨rfl, rfl⟩
  ·
   replace hK := hK.more (t := 28) (v' := .bool false) rfl (by rw [hb1])
   replace h := ite_f (of_decide_eq_false hb1) h
   refine wpIn_skip ?_
   refine then_n ?_
   refine w_seq (w_region ?_)
   refine qo 30 hK (s_load hK.at_ hS 1 rfl rfl rfl rfl (by kernel_rfl) ?_)
   clear hK fr; intro fr hK
   refine qo0 hK (s_store hK.at_ 3 hS rfl rfl rfl rfl (by kernel_rfl) (by kernel_rfl) (by kernel_rfl) ?_)
   clear hK fr hS; intro m12 l12 hS fr hK
   replace hS : St _ m m12 [.box b1 #[.int .i64 u1.2] 3, .box b4 #[.int .i64 u1.1] 3, .box b3 #[.int .i64 u1.2] 3, .box b2 #[.bool false] 4, .defs g1] := hS
   refine qo0 hK (s_store hK.at_ 3 hS rfl rfl rfl rfl (by kernel_rfl) (by kernel_rfl) (by kernel_rfl) ?_)
   clear hK fr hS; intro m13 l13 hS fr hK
   replace hS : St _ m m13 [.box b2 #[.bool false] 4, .box b1 #[.int .i64 u1.2] 3, .box b4 #[.int .i64 u1.1] 3, .box b3 #[.int .i64 u1.2] 3, .defs g1] := hS
   refine wpListIn_nil (then_n ?_)
   refine wpIn_ret ?_
   refine ret_marks 4 hK hS rfl ?_
   clear hK fr hS; intro m14 l14 hS fr hK
   replace hS : St _ m m14 [.box b2 #[.bool false] 4, .box b1 #[.int .i64 u1.2] 3, .box b4 #[.int .i64 u1.1] 3, .box b3 #[.int .i64 u1.2] 3] := hS
   replace h := Option.some.inj h; subst h
   refine ret_of [.cell 2 3, .cell 3 4] [.int .i64 u1.2, .bool false] rfl hK (ResL.box1 hS 1 rfl rfl rfl (by kernel_rfl) (ResL.box1 hS 0 rfl rfl rfl (by kernel_rfl) .nil)) hS.dropAll ?_
   exact ⟨rfl, rfl⟩
 ·
  have h := hv1; clear hv1
  refine wpIn_block ?_
  have hKo1 := hK; clear hK
  refine w_range (cap := [.pointer (some ⟨c1r0_0_b, 0, none⟩), .pointer (some ⟨c1r0_1_b, 0, none⟩)]) 22 6 hKo1 hS rfl rfl ent98_1 Try.func98 rfl rfl (by simp) ?_
  clear hS; intro lp1 D1 R1 m15 l15 hR1 hS fr hK
  replace hK : Kn 22 fr [(0, .func (.yield lp1) #[] #[]), (1, .pointer (some ⟨c1r0_0_b, 0, none⟩)), (2, .pointer (some ⟨c1r0_1_b, 0, none⟩))] := hK
  replace hS : St _ m m15 [.obj lp1 (.loop (R1 .ready none)), .defs (D1 :: []), .box c1r0_0_b #[.slice c1r0_0_a y1.1.length c1r0_0_c] 124, .box c1r0_1_b #[.slice c1r0_1_a y1.2.length c1r0_1_c] 25, .box b4 #[.int .i64 (-1)] 3, .box b3 #[.int .i64 0] 3, .box b2 #[.bool false] 4, .box b1 #[.int .i64 0] 3] := hS
  refine w_seq (w_region ?_)
  refine qo 6 hK (s_load hK.at_ hS 2 rfl rfl rfl rfl (by kernel_rfl) ?_)
  clear hK fr; intro fr hK
  refine qp 7 (.int .i64 (y1.1.length : Int)) hK fun fr hK => ?_
  refine qp 8 (.int .i64 0) hK fun fr hK => ?_
  refine wpListIn_nil (then_n ?_)
  refine wpIn_block ?_
  replace hS := hS.front 1 rfl
  replace hS := hS.front 1 rfl
  replace hS := hS.front 7 rfl
  replace hS := hS.front 7 rfl
  replace hS := hS.front 7 rfl
  replace hS := hS.front 7 rfl
  replace hS := hS.front 7 rfl
  replace hS := hS.front 7 rfl
  replace hS : St _ m m15 [.box c1r0_0_b #[.slice c1r0_0_a y1.1.length c1r0_0_c] 124, .box c1r0_1_b #[.slice c1r0_1_a y1.2.length c1r0_1_c] 25, .box b4 #[.int .i64 (-1)] 3, .box b3 #[.int .i64 0] 3, .box b2 #[.bool false] 4, .box b1 #[.int .i64 0] 3, .obj lp1 (.loop (R1 .ready none)), .defs (D1 :: [])] := hS
  refine w_loopL h (fun (s1 : Int × Int × Int) fr ww => ∃ m16 : Mem, m16.w = ww ∧ Kn 22 fr [(0, .func (.yield lp1) #[] #[]), (2, .pointer (some ⟨c1r0_1_b, 0, none⟩)), (6, .slice c1r0_0_a y1.1.length c1r0_0_c), (7, .int .i64 (y1.1.length : Int)), (8, .int .i64 s1.2.2)] ∧ Le m15 m16 ∧ St (blocksOf []) m m16 [.box c1r0_0_b #[.slice c1r0_0_a y1.1.length c1r0_0_c] 124, .box c1r0_1_b #[.slice c1r0_1_a y1.2.length c1r0_1_c] 25, .box b4 #[.int .i64 s1.1] 3, .box b3 #[.int .i64 s1.2.1] 3, .box b2 #[.bool false] 4, .box b1 #[.int .i64 0] 3, .obj lp1 (.loop (R1 .ready none)), .defs (D1 :: [])]) ?_ ?_
  · exact ⟨m15, rfl, hK.only [0, 2, 6, 7, 8], Le.refl _, hS⟩
  clear hK hS fr h
  rintro k1 s1 x1 fr _ ⟨m16, rfl, hK, l16, hS⟩ h hn1
  unfold G.delta_tiles_l1 at h
  refine w_seq (w_region ?_)
  refine qp 9 (.bool (decide (s1.2.2 < (y1.1.length : Int)))) hK fun fr hK => ?_
  refine wpListIn_nil (then_n ?_)
  refine w_seq ?_
  refine w_cond hK rfl (fun hb2 => ?_) (fun hb2 => ?_)
  ·
   replace hK := hK.more (t := 9) (v' := .bool true) rfl (by rw [hb2])
   replace h := ite_t (of_decide_eq_true hb2) h
   refine wpIn_skip ?_
   refine then_n ?_
   refine w_seq ?_
   refine wpIn_block ?_
   refine w_seq (w_region ?_)
   replace c1r0_0_f := Els.mono (rep_Num .i64) c1r0_0_f (l15.trans l16)
   obtain ⟨x2, hy2, h⟩ := bind_some h
   refine qo 10 hK (s_idx elT124_1 c1r0_0_f hy2 hK.at_ rfl rfl rfl ?_)
   clear hK fr; intro b5 p1 cs1 hR2 hA1 fr hK
   obtain rfl := hR2
   refine qo 11 hK (s_loadAt hK.at_ hA1 0 rfl rfl rfl rfl (by kernel_rfl) ?_)
   clear hK fr; intro fr hK
   refine qp 5 (.int .i64 x2) hK fun fr hK => ?_
   refine wpListIn_nil (then_n ?_)
   refine w_seq (w_region ?_)
   refine qp 12 (.func (.yield lp1) #[] #[]) hK fun fr hK => ?_
   refine qp 13 (.int .i64 x2) hK fun fr hK => ?_
   refine qo 14 hK (s_load hK.at_ hS 1 rfl rfl rfl rfl (by kernel_rfl) ?_)
   clear hK fr; intro fr hK
   refine qp 15 (.int .i64 x2) hK fun fr hK => ?_
   replace c1r0_1_f := Els.mono rep_G_Command c1r0_1_f (l15.trans l16)
   obtain ⟨x3, hy3, h⟩ := bind_some h
   refine qo 16 hK (s_idx elT25_1 c1r0_1_f hy3 hK.at_ rfl rfl rfl ?_)
   clear hK fr; intro b6 p2 cs2 hR3 hA2 fr hK
   obtain ⟨e1_data_a, e1_data_c, rfl, e1_data_f⟩ := hR3
   refine qo 17 hK (s_loadAtN [.int .i64 x3.kind, .int .i64 x3.to, .int .i64 x3.from_, .int .i64 x3.len, .slice e1_data_a x3.data.length e1_data_c] hK.at_ hA2 0 rfl rfl rfl (by kernel_rfl) (by kernel_rfl) ?_)
   clear hK fr; intro fr hK
   obtain ⟨y2, hy4, h⟩ := bind_some h
   refine qo 18 hK (s_call hK.at_ hS ent88_1 rfl rfl rfl rfl (G.command_Target_spec e1_data_f hy4) (by kernel_rfl) ?_)
   clear hK fr hS; rintro _ m17 _ l17 hS ⟨rfl, rfl⟩ fr hK
   replace hS : St _ m m17 [.box c1r0_0_b #[.slice c1r0_0_a y1.1.length c1r0_0_c] 124, .box c1r0_1_b #[.slice c1r0_1_a y1.2.length c1r0_1_c] 25, .box b4 #[.int .i64 s1.1] 3, .box b3 #[.int .i64 s1.2.1] 3, .box b2 #[.bool false] 4, .box b1 #[.int .i64 0] 3, .obj lp1 (.loop (R1 .ready none)), .defs (D1 :: [])] := hS
   refine q_yield 19 6 hK hKo1 hR1 hS rfl rfl rfl rfl rfl (by decide) ?_
   clear hK fr; intro fr hK
   replace hK : Kn 31 fr [(11, .agg #[.int .i64 y2.off, .int .i64 y2.len]), (10, .int .i64 x2), (9, .func (.func 98) #[] #[.pointer (some ⟨c1r0_0_b, 0, none⟩), .pointer (some ⟨c1r0_1_b, 0, none⟩)]), (8, .slice a0_a a0.length a0_c), (5, .pointer (some ⟨b4, 0, none⟩)), (4, .pointer (some ⟨b3, 0, none⟩)), (3, .pointer (some ⟨b2, 0, none⟩)), (2, .pointer (some ⟨b1, 0, none⟩)), (0, .slice a0_a a0.length a0_c)] := hK.only [11, 10, 9, 8, 5, 4, 3, 2, 0]
   refine w_region ?_
   refine qo 7 hK (s_alloc (.agg #[.int .i64 0, .int .i64 0]) hK.at_ hS rfl (by kernel_rfl) ?_)
   clear hK fr hS; intro m18 b7 b7z l18 hS fr hK
   refine qo0 hK (s_storeAll hK.at_ 0 hS rfl rfl rfl rfl (by kernel_rfl) (by kernel_rfl) (by kernel_rfl) ?_)
   clear hK fr hS; intro m19 l19 hS fr hK
   replace hS : St _ m m19 [.box b7 #[.int .i64 y2.off, .int .i64 y2.len] 91, .box c1r0_0_b #[.slice c1r0_0_a y1.1.length c1r0_0_c] 124, .box c1r0_1_b #[.slice c1r0_1_a y1.2.length c1r0_1_c] 25, .box b4 #[.int .i64 s1.1] 3, .box b3 #[.int .i64 s1.2.1] 3, .box b2 #[.bool false] 4, .box b1 #[.int .i64 0] 3, .obj lp1 (.loop (R1 .ready none)), .defs (D1 :: [])] := hS
   refine wpListIn_nil (then_n ?_)
   refine r_begin hR1 hS (k := 7) rfl ?_
   clear hS; intro m20 l20 hS
   replace hS : St _ m m20 [.obj lp1 (.loop (R1 .busy none)), .box b7 #[.int .i64 y2.off, .int .i64 y2.len] 91, .box c1r0_0_b #[.slice c1r0_0_a y1.1.length c1r0_0_c] 124, .box c1r0_1_b #[.slice c1r0_1_a y1.2.length c1r0_1_c] 25, .box b4 #[.int .i64 s1.1] 3, .box b3 #[.int .i64 s1.2.1] 3, .box b2 #[.bool false] 4, .box b1 #[.int .i64 0] 3, .defs (D1 :: [])] := hS
   refine wpIn_block ?_
   refine w_seq ?_
   refine w_seq (w_region ?_)
   refine qp 12 (.pointer (some ⟨b7, 0, none⟩)) hK fun fr hK => ?_
   refine qo 13 hK (s_load hK.at_ hS 1 rfl rfl rfl rfl (by kernel_rfl) ?_)
   clear hK fr; intro fr hK
   refine qo 14 hK (s_load hK.at_ hS 5 rfl rfl rfl rfl (by kernel_rfl) ?_)
   clear hK fr; intro fr hK
   refine qp 15 (.bool (decide (y2.off < s1.2.1))) hK fun fr hK => ?_
   refine wpListIn_nil (then_n ?_)
   refine w_cond hK rfl (fun hb3 => ?_) (fun hb3 => ?_)
   ·
    replace hK := hK.more (t := 15) (v' := .bool true) rfl (by rw [hb3])
    replace h := ite_t (of_decide_eq_true hb3) h
    refine w_seq (w_region ?_)
    refine qo0 hK (s_store hK.at_ 7 hS rfl rfl rfl rfl (by kernel_rfl) (by kernel_rfl) (by kernel_rfl) ?_)
    clear hK fr hS; intro m21 l21 hS fr hK
    replace hS : St _ m m21 [.box b1 #[.int .i64 0] 3, .obj lp1 (.loop (R1 .busy none)), .box b7 #[.int .i64 y2.off, .int .i64 y2.len] 91, .box c1r0_0_b #[.slice c1r0_0_a y1.1.length c1r0_0_c] 124, .box c1r0_1_b #[.slice c1r0_1_a y1.2.length c1r0_1_c] 25, .box b4 #[.int .i64 s1.1] 3, .box b3 #[.int .i64 s1.2.1] 3, .box b2 #[.bool false] 4, .defs (D1 :: [])] := hS
    refine qo0 hK (s_store hK.at_ 7 hS rfl rfl rfl rfl (by kernel_rfl) (by kernel_rfl) (by kernel_rfl) ?_)
    clear hK fr hS; intro m22 l22 hS fr hK
    replace hS : St _ m m22 [.box b2 #[.bool true] 4, .box b1 #[.int .i64 0] 3, .obj lp1 (.loop (R1 .busy none)), .box b7 #[.int .i64 y2.off, .int .i64 y2.len] 91, .box c1r0_0_b #[.slice c1r0_0_a y1.1.length c1r0_0_c] 124, .box c1r0_1_b #[.slice c1r0_1_a y1.2.length c1r0_1_c] 25, .box b4 #[.int .i64 s1.1] 3, .box b3 #[.int .i64 s1.2.1] 3, .defs (D1 :: [])] := hS
    refine wpListIn_nil (then_n ?_)
    refine wpIn_ret ?_
    refine then_r ?_
    refine blk_r ?_
    refine r_end_r hR1 2 hS rfl ?_
    clear hK fr hS; intro m23 l23 hS fr hK
    replace hS : St _ m m23 [.obj lp1 (.loop (R1 .done (some .ret))), .box b2 #[.bool true] 4, .box b1 #[.int .i64 0] 3, .box b7 #[.int .i64 y2.off, .int .i64 y2.len] 91, .box c1r0_0_b #[.slice c1r0_0_a y1.1.length c1r0_0_c] 124, .box c1r0_1_b #[.slice c1r0_1_a y1.2.length c1r0_1_c] 25, .box b4 #[.int .i64 s1.1] 3, .box b3 #[.int .i64 s1.2.1] 3, .defs (D1 :: [])] := hS
    refine qp 20 (.bool true) hK fun fr hK => ?_
    refine wpListIn_nil (then_n ?_)
    refine w_cond_t hK rfl ?_
    refine wpIn_ret ?_
    refine blk_r ?_
    refine then_r ?_
    refine then_r ?_
    refine blk_r ?_
    refine seq_end_r hK rfl hR1 0 hS rfl ?_
    clear hK fr hS; intro m24 l24 hS fr hK
    replace hS : St _ m m24 [.box b2 #[.bool true] 4, .box b1 #[.int .i64 0] 3, .box b7 #[.int .i64 y2.off, .int .i64 y2.len] 91, .box c1r0_0_b #[.slice c1r0_0_a y1.1.length c1r0_0_c] 124, .box c1r0_1_b #[.slice c1r0_1_a y1.2.length c1r0_1_c] 25, .box b4 #[.int .i64 s1.1] 3, .box b3 #[.int .i64 s1.2.1] 3, .defs (D1 :: [])] := hS
    refine blk_r ?_
    refine then_r ?_
    refine then_r ?_
    refine ret_marks 7 hK hS rfl ?_
    clear hK fr hS; intro m25 l25 hS fr hK
    replace hS : St _ m m25 [.box b2 #[.bool true] 4, .box b1 #[.int .i64 0] 3, .box b7 #[.int .i64 y2.off, .int .i64 y2.len] 91, .box c1r0_0_b #[.slice c1r0_0_a y1.1.length c1r0_0_c] 124, .box c1r0_1_b #[.slice c1r0_1_a y1.2.length c1r0_1_c] 25, .box b4 #[.int .i64 s1.1] 3, .box b3 #[.int .i64 s1.2.1] 3] := hS
    replace h := Option.some.inj h; subst h
    replace h := Option.some.inj (loop_out hn1); subst h
    replace h := Option.some.inj (join_out hk1); subst h
    refine ret_of [.cell 2 3, .cell 3 4] [.int .i64 0, .bool true] rfl hK (ResL.box1 hS 1 rfl rfl rfl (by kernel_rfl) (ResL.box1 hS 0 rfl rfl rfl (by kernel_rfl) .nil)) hS.dropAll ?_
    exact ⟨rfl, rfl⟩
   ·
    replace hK := hK.more (t := 15) (v' := .bool false) rfl (by rw [hb3])
    replace h := ite_f (of_decide_eq_false hb3) h
    refine wpIn_skip ?_
    refine then_n ?_
    refine w_seq ?_
    refine w_seq ?_
    obtain ⟨v2, hv2, h⟩ := bind_some h
    refine w_join (fun fr ww => ∃ m26 : Mem, m26.w = ww ∧ Kn 31 fr [(2, .pointer (some ⟨b1, 0, none⟩)), (3, .pointer (some ⟨b2, 0, none⟩)), (4, .pointer (some ⟨b3, 0, none⟩)), (5, .pointer (some ⟨b4, 0, none⟩)), (7, .pointer (some ⟨b7, 0, none⟩)), (9, .func (.func 98) #[] #[.pointer (some ⟨c1r0_0_b, 0, none⟩), .pointer (some ⟨c1r0_1_b, 0, none⟩)]), (11, .agg #[.int .i64 y2.off, .int .i64 y2.len]), (23, .bool v2)] ∧ Le m20 m26 ∧ St (blocksOf []) m m26 [.box b7 #[.int .i64 y2.off, .int .i64 y2.len] 91, .box c1r0_0_b #[.slice c1r0_0_a y1.1.length c1r0_0_c] 124, .box c1r0_1_b #[.slice c1r0_1_a y1.2.length c1r0_1_c] 25, .box b4 #[.int .i64 s1.1] 3, .box b3 #[.int .i64 s1.2.1] 3, .box b2 #[.bool false] 4, .box b1 #[.int .i64 0] 3, .obj lp1 (.loop (R1 .busy none)), .defs (D1 :: [])]) ?_ ?_
    ·
     clear hK hS fr hv2
     rintro fr _ ⟨m26, rfl, hK, l26, hS⟩
     refine then_n ?_
     obtain ⟨v3, hv3, h⟩ := bind_some h
     refine w_join (fun fr ww => ∃ m27 : Mem, m27.w = ww ∧ Kn 31 fr [(2, .pointer (some ⟨b1, 0, none⟩)), (3, .pointer (some ⟨b2, 0, none⟩)), (4, .pointer (some ⟨b3, 0, none⟩)), (5, .pointer (some ⟨b4, 0, none⟩)), (7, .pointer (some ⟨b7, 0, none⟩)), (9, .func (.func 98) #[] #[.pointer (some ⟨c1r0_0_b, 0, none⟩), .pointer (some ⟨c1r0_1_b, 0, none⟩)]), (11, .agg #[.int .i64 y2.off, .int .i64 y2.len])] ∧ Le m26 m27 ∧ St (blocksOf []) m m27 [.box b7 #[.int .i64 y2.off, .int .i64 y2.len] 91, .box c1r0_0_b #[.slice c1r0_0_a y1.1.length c1r0_0_c] 124, .box c1r0_1_b #[.slice c1r0_1_a y1.2.length c1r0_1_c] 25, .box b4 #[.int .i64 v3] 3, .box b3 #[.int .i64 s1.2.1] 3, .box b2 #[.bool false] 4, .box b1 #[.int .i64 0] 3, .obj lp1 (.loop (R1 .busy none)), .defs (D1 :: [])]) ?_ ?_
     ·
      clear hK hS fr hv3
      rintro fr _ ⟨m27, rfl, hK, l27, hS⟩
      refine then_n ?_
      refine w_region ?_
      refine qo 25 hK (s_loadAll hK.at_ hS 0 rfl rfl rfl (by kernel_rfl) ?_)
      clear hK fr; intro fr hK
      obtain ⟨y3, hy5, h⟩ := bind_some h
      refine qo 26 hK (s_call hK.at_ hS ent93_1 rfl rfl rfl rfl (G.extent_End_spec hy5) (by kernel_rfl) ?_)
      clear hK fr hS; rintro _ m28 _ l28 hS ⟨rfl, rfl⟩ fr hK
      replace hS : St _ m m28 [.box b7 #[.int .i64 y2.off, .int .i64 y2.len] 91, .box c1r0_0_b #[.slice c1r0_0_a y1.1.length c1r0_0_c] 124, .box c1r0_1_b #[.slice c1r0_1_a y1.2.length c1r0_1_c] 25, .box b4 #[.int .i64 v3] 3, .box b3 #[.int .i64 s1.2.1] 3, .box b2 #[.bool false] 4, .box b1 #[.int .i64 0] 3, .obj lp1 (.loop (R1 .busy none)), .defs (D1 :: [])] := hS
      refine qo0 hK (s_store hK.at_ 4 hS rfl rfl rfl rfl (by kernel_rfl) (by kernel_rfl) (by kernel_rfl) ?_)
      clear hK fr hS; intro m29 l29 hS fr hK
      replace hS : St _ m m29 [.box b3 #[.int .i64 y3] 3, .box b7 #[.int .i64 y2.off, .int .i64 y2.len] 91, .box c1r0_0_b #[.slice c1r0_0_a y1.1.length c1r0_0_c] 124, .box c1r0_1_b #[.slice c1r0_1_a y1.2.length c1r0_1_c] 25, .box b4 #[.int .i64 v3] 3, .box b2 #[.bool false] 4, .box b1 #[.int .i64 0] 3, .obj lp1 (.loop (R1 .busy none)), .defs (D1 :: [])] := hS
      refine wpListIn_nil ?_
      refine blk_n ?_
      refine r_end_n hR1 7 hS rfl ?_
      clear hK fr hS; intro m30 l30 hS fr hK
      replace hS : St _ m m30 [.obj lp1 (.loop (R1 .ready none)), .box b3 #[.int .i64 y3] 3, .box b7 #[.int .i64 y2.off, .int .i64 y2.len] 91, .box c1r0_0_b #[.slice c1r0_0_a y1.1.length c1r0_0_c] 124, .box c1r0_1_b #[.slice c1r0_1_a y1.2.length c1r0_1_c] 25, .box b4 #[.int .i64 v3] 3, .box b2 #[.bool false] 4, .box b1 #[.int .i64 0] 3, .defs (D1 :: [])] := hS
      refine qp 20 (.bool false) hK fun fr hK => ?_
      refine wpListIn_nil (then_n ?_)
      refine w_cond_f hK rfl ?_
      refine wpIn_skip ?_
      refine blk_n ?_
      refine then_n ?_
      refine w_region ?_
      refine qp 21 (.int .i64 (IntKind.i64.wrap (s1.2.2 + 1))) hK fun fr hK => ?_
      refine qp 8 (.int .i64 (IntKind.i64.wrap (s1.2.2 + 1))) hK fun fr hK => ?_
      refine wpListIn_nil (then_n ?_)
      replace hS := hS.front 8 rfl
      replace hS := hS.front 1 rfl
      replace hS := hS.front 8 rfl
      replace hS := hS.front 8 rfl
      replace hS := hS.front 4 rfl
      replace hS := hS.front 8 rfl
      replace hS := hS.front 8 rfl
      replace hS := hS.front 8 rfl
      replace hS := St.keep (L := [.box c1r0_0_b #[.slice c1r0_0_a y1.1.length c1r0_0_c] 124, .box c1r0_1_b #[.slice c1r0_1_a y1.2.length c1r0_1_c] 25, .box b4 #[.int .i64 v3] 3, .box b3 #[.int .i64 y3] 3, .box b2 #[.bool false] 4, .box b1 #[.int .i64 0] 3, .obj lp1 (.loop (R1 .ready none)), .defs (D1 :: [])]) (R := [.box b7 #[.int .i64 y2.off, .int .i64 y2.len] 91]) hS
      replace h := Option.some.inj h; subst h
      obtain ⟨kq, hk1, hk2⟩ := hn1
      exact ⟨kq, hk1, _, hk2, m30, rfl, hK.only [0, 2, 6, 7, 8], l16.trans (l17.trans (l18.trans (l19.trans (l20.trans (l26.trans (l27.trans (l28.trans (l29.trans l30)))))))), hS⟩
     ·
      replace h := hv3; clear hv3
      refine w_cond hK rfl (fun hb4 => ?_) (fun hb4 => ?_)
      ·
       replace hK := hK.more (t := 23) (v' := .bool true) rfl (by rw [hb4])
       replace h := ite_t (hb4) h
       refine w_region ?_
       refine qo 24 hK (s_load hK.at_ hS 4 rfl rfl rfl rfl (by kernel_rfl) ?_)
       clear hK fr; intro fr hK
       refine qo0 hK (s_store hK.at_ 3 hS rfl rfl rfl rfl (by kernel_rfl) (by kernel_rfl) (by kernel_rfl) ?_)
       clear hK fr hS; intro m31 l31 hS fr hK
       replace hS : St _ m m31 [.box b4 #[.int .i64 s1.2.1] 3, .box b7 #[.int .i64 y2.off, .int .i64 y2.len] 91, .box c1r0_0_b #[.slice c1r0_0_a y1.1.length c1r0_0_c] 124, .box c1r0_1_b #[.slice c1r0_1_a y1.2.length c1r0_1_c] 25, .box b3 #[.int .i64 s1.2.1] 3, .box b2 #[.bool false] 4, .box b1 #[.int .i64 0] 3, .obj lp1 (.loop (R1 .busy none)), .defs (D1 :: [])] := hS
       refine wpListIn_nil (then_n ?_)
       replace hS := hS.front 8 rfl
       replace hS := hS.front 8 rfl
       replace hS := hS.front 8 rfl
       replace hS := hS.front 8 rfl
       replace hS := hS.front 8 rfl
       replace hS := hS.front 5 rfl
       replace hS := hS.front 8 rfl
       replace hS := hS.front 8 rfl
       replace hS := hS.front 8 rfl
       replace hS : St _ m m31 [.box b7 #[.int .i64 y2.off, .int .i64 y2.len] 91, .box c1r0_0_b #[.slice c1r0_0_a y1.1.length c1r0_0_c] 124, .box c1r0_1_b #[.slice c1r0_1_a y1.2.length c1r0_1_c] 25, .box b4 #[.int .i64 s1.2.1] 3, .box b3 #[.int .i64 s1.2.1] 3, .box b2 #[.bool false] 4, .box b1 #[.int .i64 0] 3, .obj lp1 (.loop (R1 .busy none)), .defs (D1 :: [])] := hS
       replace h := Option.some.inj h; subst h
       exact ⟨m31, rfl, hK.only [2, 3, 4, 5, 7, 9, 11], l31, hS⟩
      ·
       replace hK := hK.more (t := 23) (v' := .bool false) rfl (by rw [hb4])
       replace h := ite_f (ne_true_of_eq_false hb4) h
       refine wpIn_skip ?_
       refine then_n ?_
       replace hS := hS.front 8 rfl
       replace hS := hS.front 8 rfl
       replace hS := hS.front 8 rfl
       replace hS := hS.front 8 rfl
       replace hS := hS.front 8 rfl
       replace hS := hS.front 8 rfl
       replace hS := hS.front 8 rfl
       replace hS := hS.front 8 rfl
       replace hS := hS.front 8 rfl
       replace hS : St _ m m26 [.box b7 #[.int .i64 y2.off, .int .i64 y2.len] 91, .box c1r0_0_b #[.slice c1r0_0_a y1.1.length c1r0_0_c] 124, .box c1r0_1_b #[.slice c1r0_1_a y1.2.length c1r0_1_c] 25, .box b4 #[.int .i64 s1.1] 3, .box b3 #[.int .i64 s1.2.1] 3, .box b2 #[.bool false] 4, .box b1 #[.int .i64 0] 3, .obj lp1 (.loop (R1 .busy none)), .defs (D1 :: [])] := hS
       replace h := Option.some.inj h; subst h
       exact ⟨m26, rfl, hK.only [2, 3, 4, 5, 7, 9, 11], Le.refl _, hS⟩
    ·
     replace h := hv2; clear hv2
     refine w_region ?_
     refine qp 16 (.pointer (some ⟨b7, 0, none⟩)) hK fun fr hK => ?_
     refine qo 17 hK (s_load hK.at_ hS 1 rfl rfl rfl rfl (by kernel_rfl) ?_)
     clear hK fr; intro fr hK
     refine qo 18 hK (s_load hK.at_ hS 5 rfl rfl rfl rfl (by kernel_rfl) ?_)
     clear hK fr; intro fr hK
     refine qp 19 (.bool (decide (y2.off > s1.2.1))) hK fun fr hK => ?_
     refine qp 20 (.bool (decide (y2.off > s1.2.1))) hK fun fr hK => ?_
     refine split_b (x := decide (y2.off > s1.2.1)) (fun hb5 => ?_) (fun hb5 => ?_)
     ·
      replace hK := hK.more (t := 20) (v' := .bool true) rfl (by rw [hb5])
      replace hK := hK.more (t := 19) (v' := .bool true) rfl (by rw [hb5])
      replace h := ite_t (of_decide_eq_true hb5) h
      refine qo 21 hK (s_load hK.at_ hS 4 rfl rfl rfl rfl (by kernel_rfl) ?_)
      clear hK fr; intro fr hK
      refine qp 22 (.bool (decide (s1.1 < 0))) hK fun fr hK => ?_
      refine qp 23 (.bool (decide (s1.1 < 0))) hK fun fr hK => ?_
      refine wpListIn_nil (then_n ?_)
      replace hS := hS.front 8 rfl
      replace hS := hS.front 1 rfl
      replace hS := hS.front 8 rfl
      replace hS := hS.front 8 rfl
      replace hS := hS.front 8 rfl
      replace hS := hS.front 8 rfl
      replace hS := hS.front 8 rfl
      replace hS := hS.front 8 rfl
      replace hS := hS.front 8 rfl
      replace hS : St _ m m20 [.box b7 #[.int .i64 y2.off, .int .i64 y2.len] 91, .box c1r0_0_b #[.slice c1r0_0_a y1.1.length c1r0_0_c] 124, .box c1r0_1_b #[.slice c1r0_1_a y1.2.length c1r0_1_c] 25, .box b4 #[.int .i64 s1.1] 3, .box b3 #[.int .i64 s1.2.1] 3, .box b2 #[.bool false] 4, .box b1 #[.int .i64 0] 3, .obj lp1 (.loop (R1 .busy none)), .defs (D1 :: [])] := hS
      replace h := Option.some.inj h; subst h
      exact ⟨m20, rfl, hK.only [2, 3, 4, 5, 7, 9, 11, 23], Le.refl _, hS⟩
     ·
      replace hK := hK.more (t := 20) (v' := .bool false) rfl (by rw [hb5])
      replace hK := hK.more (t := 19) (v' := .bool false) rfl (by rw [hb5])
      replace h := ite_f (of_decide_eq_false hb5) h
      refine qs 21 hK ?_
      clear hK fr; intro fr hK
      refine qs 22 hK ?_
      clear hK fr; intro fr hK
      refine qp 23 (.bool false) hK fun fr hK => ?_
      refine wpListIn_nil (then_n ?_)
      replace hS := hS.front 8 rfl
      replace hS := hS.front 1 rfl
      replace hS := hS.front 8 rfl
      replace hS := hS.front 8 rfl
      replace hS := hS.front 8 rfl
      replace hS := hS.front 8 rfl
      replace hS := hS.front 8 rfl
      replace hS := hS.front 8 rfl
      replace hS := hS.front 8 rfl
      replace hS : St _ m m20 [.box b7 #[.int .i64 y2.off, .int .i64 y2.len] 91, .box c1r0_0_b #[.slice c1r0_0_a y1.1.length c1r0_0_c] 124, .box c1r0_1_b #[.slice c1r0_1_a y1.2.length c1r0_1_c] 25, .box b4 #[.int .i64 s1.1] 3, .box b3 #[.int .i64 s1.2.1] 3, .box b2 #[.bool false] 4, .box b1 #[.int .i64 0] 3, .obj lp1 (.loop (R1 .busy none)), .defs (D1 :: [])] := hS
      replace h := Option.some.inj h; subst h
      exact ⟨m20, rfl, hK.only [2, 3, 4, 5, 7, 9, 11, 23], Le.refl _, hS⟩
  ·
   replace hK := hK.more (t := 9) (v' := .bool false) rfl (by rw [hb2])
   replace h := ite_f (of_decide_eq_false hb2) h
   refine wpIn_exit ?_
   refine then_x ?_
   refine then_x ?_
   refine blk_e ?_
   refine seq_normal ?_
   refine seq_end_n hK rfl hR1 6 hS rfl ?_
   clear hK fr hS; intro m32 l32 hS fr hK
   replace hS : St _ m m32 [.box c1r0_0_b #[.slice c1r0_0_a y1.1.length c1r0_0_c] 124, .box c1r0_1_b #[.slice c1r0_1_a y1.2.length c1r0_1_c] 25, .box b4 #[.int .i64 s1.1] 3, .box b3 #[.int .i64 s1.2.1] 3, .box b2 #[.bool false] 4, .box b1 #[.int .i64 0] 3, .defs (D1 :: [])] := hS
   refine blk_n ?_
   refine then_n ?_
   replace hS := hS.front 6 rfl
   replace hS := hS.front 6 rfl
   replace hS := hS.front 6 rfl
   replace hS := hS.front 6 rfl
   replace hS := hS.front 6 rfl
   replace hS := St.keep (L := [.box b4 #[.int .i64 s1.1] 3, .box b3 #[.int .i64 s1.2.1] 3, .box b2 #[.bool false] 4, .box b1 #[.int .i64 0] 3, .defs (D1 :: [])]) (R := [.box c1r0_0_b #[.slice c1r0_0_a y1.1.length c1r0_0_c] 124, .box c1r0_1_b #[.slice c1r0_1_a y1.2.length c1r0_1_c] 25]) hS
   replace h := Option.some.inj h; subst h
   replace h := Option.some.inj (loop_out hn1); subst h
   exact ⟨_, rfl, (D1 :: []), m32, rfl, hK.only [2, 3, 4, 5], l15.trans (l16.trans l32), hS⟩
set_option maxRecDepth 100000 in
set_option maxHeartbeats 1000000 in
theorem G.extent_between_spec {m : Mem} {a0 : Int} {a1 : Int} {a2 : Int} {r : G.Extent × Bool} (h : G.extent_between a0 a1 a2 = some r) :
  Spec Try.prog 107 #[.int .i64 a0, .int .i64 a1, .int .i64 a2] m [] fun v m' L => L = [] ∧ v = .tuple #[.agg #[.int .i64 r.1.off, .int .i64 r.1.len], .bool r.2] := by
 unfold G.extent_between at h
 refine enter (args := [_, _, _]) 19 Try.func107 rfl rfl (by simp) fun fr hK => ?_
 have hS := St.refl (Ow.nil m)
 replace hK : Kn 19 fr [(0, .int .i64 a0), (1, .int .i64 a1), (2, .int .i64 a2)] := hK
 refine w_seq (w_region ?_)
 refine qo 6 hK (s_alloc (.agg #[.int .i64 0, .int .i64 0]) hK.at_ hS rfl (by kernel_rfl) ?_)
 clear hK fr hS; intro m1 b1 b1z l1 hS fr hK
 replace hS : St _ m m1 [.box b1 #[.int .i64 0, .int .i64 0] 91] := hS
 refine qp 7 (.bool false) hK fun fr hK => ?_
 refine wpListIn_nil (then_n ?_)
 refine w_seq ?_
 refine w_seq (w_region ?_)
 refine qp 8 (.int .i64 a1) hK fun fr hK => ?_
 refine qp 9 (.int .i64 a0) hK fun fr hK => ?_
 refine qp 10 (.int .i64 (IntKind.i64.wrap (a1 - a0))) hK fun fr hK => ?_
 refine qp 11 (.int .i64 a2) hK fun fr hK => ?_
 refine qp 12 (.bool (decide ((IntKind.i64.wrap (a1 - a0)) < a2))) hK fun fr hK => ?_
 refine wpListIn_nil (then_n ?_)
 refine w_cond hK rfl (fun hb1 => ?_) (fun hb1 => ?_)
 ·
  replace hK := hK.more (t := 12) (v' := .bool true) rfl (by rw [hb1])
  replace h := ite_t (of_decide_eq_true hb1) h
  refine w_seq (w_region ?_)
  refine qp 13 (.agg #[.int .i64 0, .int .i64 0]) hK fun fr hK => ?_
  refine qo0 hK (s_storeAll hK.at_ 0 hS rfl rfl rfl rfl (by kernel_rfl) (by kernel_rfl) (by kernel_rfl) ?_)
  clear hK fr hS; intro m2 l2 hS fr hK
  replace hS : St _ m m2 [.box b1 #[.int .i64 0, .int .i64 0] 91] := hS
  refine qp 7 (.bool false) hK fun fr hK => ?_
  refine wpListIn_nil (then_n ?_)
  refine wpIn_ret ?_
  refine then_r ?_
  replace h := Option.some.inj h; subst h
  refine ret_of [.cell 6 91, .tmp 7] [.agg #[.int .i64 0, .int .i64 0], .bool false] rfl hK (ResL.box hS 0 rfl rfl (by kernel_rfl) (.tmp rfl .nil)) hS.dropAll ?_
  exact ⟨rfl, rfl⟩
 ·
  replace hK := hK.more (t := 12) (v' := .bool false) rfl (by rw [hb1])
  replace h := ite_f (of_decide_eq_false hb1) h
  refine wpIn_skip ?_
  refine then_n ?_
  refine w_seq (w_region ?_)
  refine qp 14 (.int .i64 a0) hK fun fr hK => ?_
  refine qp 15 (.int .i64 a1) hK fun fr hK => ?_
  refine qp 16 (.int .i64 a0) hK fun fr hK => ?_
  refine qp 17 (.int .i64 (IntKind.i64.wrap (a1 - a0))) hK fun fr hK => ?_
  refine qp 18 (.agg #[.int .i64 a0, .int .i64 (IntKind.i64.wrap (a1 - a0))]) hK fun fr hK => ?_
  refine qo0 hK (s_storeAll hK.at_ 0 hS rfl rfl rfl rfl (by kernel_rfl) (by kernel_rfl) (by kernel_rfl) ?_)
  clear hK fr hS; intro m3 l3 hS fr hK
  replace hS : St _ m m3 [.box b1 #[.int .i64 a0, .int .i64 (IntKind.i64.wrap (a1 - a0))] 91] := hS
  refine qp 7 (.bool true) hK fun fr hK => ?_
  refine wpListIn_nil (then_n ?_)
  refine wpIn_ret ?_
  replace h := Option.some.inj h; subst h
  refine ret_of [.cell 6 91, .tmp 7] [.agg #[.int .i64 a0, .int .i64 (IntKind.i64.wrap (a1 - a0))], .bool true] rfl hK (ResL.box hS 0 rfl rfl (by kernel_rfl) (.tmp rfl .nil)) hS.dropAll ?_
  exact ⟨rfl, rfl⟩
set_option maxRecDepth 100000 in
set_option maxHeartbeats 1000000 in
theorem G.extent_Overlap_spec {m : Mem} {a0 : G.Extent} {a1 : G.Extent} {r : G.Extent × Bool} (h : G.extent_Overlap a0 a1 = some r) :
  Spec Try.prog 94 #[.agg #[.int .i64 a0.off, .int .i64 a0.len], .agg #[.int .i64 a1.off, .int .i64 a1.len]] m [] fun v m' L => L = [] ∧ v = .tuple #[.agg #[.int .i64 r.1.off, .int .i64 r.1.len], .bool r.2] := by
 unfold G.extent_Overlap at h
 refine enter (args := [_, _]) 19 Try.func94 rfl rfl (by simp) fun fr hK => ?_
 have hS := St.refl (Ow.nil m)
 replace hK : Kn 19 fr [(0, .agg #[.int .i64 a0.off, .int .i64 a0.len]), (1, .agg #[.int .i64 a1.off, .int .i64 a1.len])] := hK
 refine w_seq (w_region ?_)
 refine qo 2 hK (s_box hK.at_ hS rfl rfl ?_)
 clear hK fr hS; intro m1 b1 b1z l1 hS fr hK
 refine qo 3 hK (s_box hK.at_ hS rfl rfl ?_)
 clear hK fr hS; intro m2 b2 b2z l2 hS fr hK
 refine qo 4 hK (s_alloc (.agg #[.int .i64 0, .int .i64 0]) hK.at_ hS rfl (by kernel_rfl) ?_)
 clear hK fr hS; intro m3 b3 b3z l3 hS fr hK
 replace hS : St _ m m3 [.box b3 #[.int .i64 0, .int .i64 0] 91, .box b2 #[.int .i64 a1.off, .int .i64 a1.len] 91, .box b1 #[.int .i64 a0.off, .int .i64 a0.len] 91] := hS
 refine qp 5 (.bool false) hK fun fr hK => ?_
 refine wpListIn_nil (then_n ?_)
 refine w_seq ?_
 obtain ⟨y1, hy1, h⟩ := bind_some h
 obtain ⟨y2, hy2, h⟩ := bind_some h
 obtain ⟨y3, hy3, h⟩ := bind_some h
 have hlt0 : ∀ bq ∈ blocksOf [.box b3 #[.int .i64 0, .int .i64 0] 91, .box b2 #[.int .i64 a1.off, .int .i64 a1.len] 91, .box b1 #[.int .i64 a0.off, .int .i64 a0.len] 91], bq < m3.w.heap.size := fun bq hbq => hS.ow.lt hbq
 refine D.wp_draw (Gr := D.GO m3 none) (S := D.SO none (blocksOf []) m m3 (fun _ => [.box b3 #[.int .i64 0, .int .i64 0] 91, .box b2 #[.int .i64 a1.off, .int .i64 a1.len] 91, .box b1 #[.int .i64 a0.off, .int .i64 a0.len] 91]) (fun _ => True)) (N := 0) 13 [] [([(2, none)], 0, 0, false), ([(6, some 0)], 0, 0, false), ([(3, none)], 0, 0, false), ([(8, some 0)], 0, 0, false), ([(7, some 2), (9, some 0)], 0, 0, false), ([(2, none)], 0, 0, false), ([(11, some 0)], 0, 0, false), ([(3, none)], 0, 0, false), ([(13, some 0)], 0, 0, false), ([(12, some 2), (14, some 0)], 0, 0, false), ([(10, some 5), (15, some 0)], 0, 0, false), ([(16, some 0)], 0, 0, false), ([(16, some 1)], 0, 0, false)] hK.size (by kernel_rfl) (by kernel_rfl) (by kernel_rfl) rfl (D.startO hS trivial) ?_
 refine D.on_pure (D.GO_refl _ _) [(2, .pointer (some ⟨b1, 0, none⟩))] (.pointer (some ⟨b1, 0, none⟩)) (fun ac ww hk => (.cons (hk.1.trans (hK.at_ 2 _ rfl)) (.nil _))) ?_
 refine D.on_det (D.GO_refl _ _) [(6, .pointer (some ⟨b1, 0, none⟩))] (.int .i64 a0.off) (fun ac ww hk => (.cons (hk.1) (.nil _))) (fun ac ww kk hb hKe Post hp => (fun hS => s_load hKe hS 2 rfl rfl rfl rfl (by kernel_rfl) hp) hb.2.1) ?_
 refine D.on_pure (D.GO_refl _ _) [(3, .pointer (some ⟨b2, 0, none⟩))] (.pointer (some ⟨b2, 0, none⟩)) (fun ac ww hk => (.cons (hk.1.trans (hK.at_ 3 _ rfl)) (.nil _))) ?_
 refine D.on_det (D.GO_refl _ _) [(8, .pointer (some ⟨b2, 0, none⟩))] (.int .i64 a1.off) (fun ac ww hk => (.cons (hk.1) (.nil _))) (fun ac ww kk hb hKe Post hp => (fun hS => s_load hKe hS 1 rfl rfl rfl rfl (by kernel_rfl) hp) hb.2.1) ?_
 refine D.on_pure (D.GO_refl _ _) [(7, .int .i64 a0.off), (9, .int .i64 a1.off)] (.int .i64 (imax a0.off a1.off)) (fun ac ww hk => (.cons (hk.1) (.cons (hk.2.1) (.nil _)))) ?_
 refine D.on_det (D.GO_refl _ _) [(2, .pointer (some ⟨b1, 0, none⟩))] (.agg #[.int .i64 a0.off, .int .i64 a0.len]) (fun ac ww hk => (.cons (hk.1.trans (hK.at_ 2 _ rfl)) (.nil _))) (fun ac ww kk hb hKe Post hp => (fun hS => s_loadAll hKe hS 2 rfl rfl rfl (by kernel_rfl) hp) hb.2.1) ?_
 refine D.on_op (fun uu _ => uu = .int .i64 y1) (fun _ _ _ h _ => h) (by
  intro ac ww kk hlo hhi hb hk
  obtain rfl : kk = 0 := by omega
  have h0 := hS; replace hS := hb.2.1
  have k11 : ac.eval (.tmp 11) = .agg #[.int .i64 a0.off, .int .i64 a0.len] := hk.1
  have hKe : Ke ac [(11, .agg #[.int .i64 a0.off, .int .i64 a0.len])] := (.cons k11 (.nil _))
  exact ⟨D.wanted0 rfl, D.callO h0 (fun bq hbq => hlt0 bq (by revert hbq; simp [blocksOf, Ent.box, rowOf, Ent.row]; try omega)) hb hKe ent93_1 rfl rfl rfl rfl (G.extent_End_spec hy1) (by kernel_rfl) (by rintro _ m' _ hg hn hl ⟨rfl, rfl⟩; exact rfl)⟩) ?_
 refine D.on_det (D.GO_refl _ _) [(3, .pointer (some ⟨b2, 0, none⟩))] (.agg #[.int .i64 a1.off, .int .i64 a1.len]) (fun ac ww hk => (.cons (hk.1.trans (hK.at_ 3 _ rfl)) (.nil _))) (fun ac ww kk hb hKe Post hp => (fun hS => s_loadAll hKe hS 1 rfl rfl rfl (by kernel_rfl) hp) hb.2.1) ?_
 refine D.on_op (fun uu _ => uu = .int .i64 y2) (fun _ _ _ h _ => h) (by
  intro ac ww kk hlo hhi hb hk
  obtain rfl : kk = 0 := by omega
  have h0 := hS; replace hS := hb.2.1
  have k13 : ac.eval (.tmp 13) = .agg #[.int .i64 a1.off, .int .i64 a1.len] := hk.1
  have hKe : Ke ac [(13, .agg #[.int .i64 a1.off, .int .i64 a1.len])] := (.cons k13 (.nil _))
  exact ⟨D.wanted0 rfl, D.callO h0 (fun bq hbq => hlt0 bq (by revert hbq; simp [blocksOf, Ent.box, rowOf, Ent.row]; try omega)) hb hKe ent93_1 rfl rfl rfl rfl (G.extent_End_spec hy2) (by kernel_rfl) (by rintro _ m' _ hg hn hl ⟨rfl, rfl⟩; exact rfl)⟩) ?_
 refine D.on_pure (D.GO_refl _ _) [(12, .int .i64 y1), (14, .int .i64 y2)] (.int .i64 (imin y1 y2)) (fun ac ww hk => (.cons (hk.1) (.cons (hk.2.1) (.nil _)))) ?_
 refine D.on_op (fun uu _ => uu = .tuple #[.agg #[.int .i64 y3.1.off, .int .i64 y3.1.len], .bool y3.2]) (fun _ _ _ h _ => h) (by
  intro ac ww kk hlo hhi hb hk
  obtain rfl : kk = 0 := by omega
  have h0 := hS; replace hS := hb.2.1
  have k10 : ac.eval (.tmp 10) = .int .i64 (imax a0.off a1.off) := hk.1
  have k15 : ac.eval (.tmp 15) = .int .i64 (imin y1 y2) := hk.2.1
  have hKe : Ke ac [(10, .int .i64 (imax a0.off a1.off)), (15, .int .i64 (imin y1 y2))] := (.cons k10 (.cons k15 (.nil _)))
  exact ⟨D.wanted0 rfl, D.callO h0 (fun bq hbq => hlt0 bq (by revert hbq; simp [blocksOf, Ent.box, rowOf, Ent.row]; try omega)) hb hKe ent107_1 rfl rfl rfl rfl (G.extent_between_spec hy3) (by kernel_rfl) (by rintro _ m' _ hg hn hl ⟨rfl, rfl⟩; exact rfl)⟩) ?_
 refine D.on_pure (D.GO_refl _ _) [(16, .tuple #[.agg #[.int .i64 y3.1.off, .int .i64 y3.1.len], .bool y3.2])] (.agg #[.int .i64 y3.1.off, .int .i64 y3.1.len]) (fun ac ww hk => (.cons (hk.1) (.nil _))) ?_
 refine D.on_pure (D.GO_refl _ _) [(16, .tuple #[.agg #[.int .i64 y3.1.off, .int .i64 y3.1.len], .bool y3.2])] (.bool y3.2) (fun ac ww hk => (.cons (hk.1) (.nil _))) ?_
 refine D.finO ?_
 intro fr2 m4 hm1 l4 hS2 hF2 hE
 replace hS2 : St _ m m4 [.box b3 #[.int .i64 0, .int .i64 0] 91, .box b2 #[.int .i64 a1.off, .int .i64 a1.len] 91, .box b1 #[.int .i64 a0.off, .int .i64 a0.len] 91] := hS2
 have hK2 := D.kn_ends [(6, .pointer (some ⟨b1, 0, none⟩)), (7, .int .i64 a0.off), (8, .pointer (some ⟨b2, 0, none⟩)), (9, .int .i64 a1.off), (10, .int .i64 (imax a0.off a1.off)), (11, .agg #[.int .i64 a0.off, .int .i64 a0.len]), (12, .int .i64 y1), (13, .agg #[.int .i64 a1.off, .int .i64 a1.len]), (14, .int .i64 y2), (15, .int .i64 (imin y1 y2)), (16, .tuple #[.agg #[.int .i64 y3.1.off, .int .i64 y3.1.len], .bool y3.2]), (17, .agg #[.int .i64 y3.1.off, .int .i64 y3.1.len]), (18, .bool y3.2)] hK hE rfl (by kernel_rfl) (.cons (hE.slots 6) (.cons (hE.slots 7) (.cons (hE.slots 8) (.cons (hE.slots 9) (.cons (hE.slots 10) (.cons (hE.slots 11) (.cons (hE.slots 12) (.cons (hE.slots 13) (.cons (hE.slots 14) (.cons (hE.slots 15) (.cons (hE.slots 16) (.cons (hE.slots 17) (.cons (hE.slots 18) (.nil _))))))))))))))
 replace hK2 : Kn 19 fr2 [(6, .pointer (some ⟨b1, 0, none⟩)), (7, .int .i64 a0.off), (8, .pointer (some ⟨b2, 0, none⟩)), (9, .int .i64 a1.off), (10, .int .i64 (imax a0.off a1.off)), (11, .agg #[.int .i64 a0.off, .int .i64 a0.len]), (12, .int .i64 y1), (13, .agg #[.int .i64 a1.off, .int .i64 a1.len]), (14, .int .i64 y2), (15, .int .i64 (imin y1 y2)), (16, .tuple #[.agg #[.int .i64 y3.1.off, .int .i64 y3.1.len], .bool y3.2]), (17, .agg #[.int .i64 y3.1.off, .int .i64 y3.1.len]), (18, .bool y3.2), (5, .bool false), (4, .pointer (some ⟨b3, 0, none⟩)), (3, .pointer (some ⟨b2, 0, none⟩)), (2, .pointer (some ⟨b1, 0, none⟩)), (0, .agg #[.int .i64 a0.off, .int .i64 a0.len]), (1, .agg #[.int .i64 a1.off, .int .i64 a1.len])] := hK2.only [6, 7, 8, 9, 10, 11, 12, 13, 14, 15, 16, 17, 18, 5, 4, 3, 2, 0, 1]
 clear hE hK; revert hK2; clear hm1 hS hlt0; revert fr2; clear fr; intro fr hK; have hS := hS2; clear hS2
 refine qo0 hK (s_storeAll hK.at_ 0 hS rfl rfl rfl rfl (by kernel_rfl) (by kernel_rfl) (by kernel_rfl) ?_)
 clear hK fr hS; intro m5 l5 hS fr hK
 replace hS : St _ m m5 [.box b3 #[.int .i64 y3.1.off, .int .i64 y3.1.len] 91, .box b2 #[.int .i64 a1.off, .int .i64 a1.len] 91, .box b1 #[.int .i64 a0.off, .int .i64 a0.len] 91] := hS
 refine qp 5 (.bool y3.2) hK fun fr hK => ?_
 refine wpListIn_nil (then_n ?_)
 refine wpIn_ret ?_
 replace h := Option.some.inj h; subst h
 refine ret_of [.cell 4 91, .tmp 5] [.agg #[.int .i64 y3.1.off, .int .i64 y3.1.len], .bool y3.2] rfl hK (ResL.box hS 0 rfl rfl (by kernel_rfl) (.tmp rfl .nil)) hS.dropAll ?_
 exact ⟨rfl, rfl⟩
set_option maxRecDepth 100000 in
set_option maxHeartbeats 1000000 in
theorem G.delta_overlap_spec {m : Mem} {a0 : List G.Command} {a0_a : Option Addr} {a0_c : Nat} (a0_f : Els is_G_Command m 5 a0_a a0_c a0) {r : Int} (h : G.delta_overlap a0 = some r) :
  Spec Try.prog 68 #[.slice a0_a a0.length a0_c] m [] fun v m' L => L = [] ∧ v = .int .i64 r := by
 unfold G.delta_overlap at h
 refine enter (args := [_]) 36 Try.func68 rfl rfl (by simp) fun fr hK => ?_
 have hS := St.refl (Ow.nil m)
 replace hK : Kn 36 fr [(0, .slice a0_a a0.length a0_c)] := hK
 refine w_seq (w_region ?_)
 refine qp 2 (.int .i64 0) hK fun fr hK => ?_
 refine wpListIn_nil (then_n ?_)
 refine w_seq ?_
 refine w_seq (w_region ?_)
 refine qp 8 (.slice a0_a a0.length a0_c) hK fun fr hK => ?_
 refine qp 9 (.int .i64 (a0.length : Int)) hK fun fr hK => ?_
 refine qp 10 (.int .i64 0) hK fun fr hK => ?_
 refine wpListIn_nil (then_n ?_)
 refine wpIn_block ?_
 refine w_loopL h (fun (s1 : Int) fr ww => ∃ m1 : Mem, m1.w = ww ∧ Kn 36 fr [(0, .slice a0_a a0.length a0_c), (9, .int .i64 (a0.length : Int)), (10, .int .i64 s1)] ∧ Le m m1 ∧ St (blocksOf []) m m1 []) ?_ ?_
 · exact ⟨m, rfl, hK.only [0, 9, 10], Le.refl _, hS⟩
 clear hK hS fr h
 rintro k1 s1 x1 fr _ ⟨m1, rfl, hK, l1, hS⟩ h hn1
 unfold G.delta_overlap_l1 at h
 refine w_seq (w_region ?_)
 refine qp 11 (.bool (decide (s1 < (a0.length : Int)))) hK fun fr hK => ?_
 refine wpListIn_nil (then_n ?_)
 refine w_seq ?_
 refine w_cond hK rfl (fun hb1 => ?_) (fun hb1 => ?_)
 ·
  replace hK := hK.more (t := 11) (v' := .bool true) rfl (by rw [hb1])
  replace h := ite_t (of_decide_eq_true hb1) h
  refine wpIn_skip ?_
  refine then_n ?_
  refine w_seq ?_
  refine wpIn_block ?_
  refine w_seq (w_region ?_)
  refine qp 12 (.int .i64 s1) hK fun fr hK => ?_
  refine qp 3 (.int .i64 s1) hK fun fr hK => ?_
  refine wpListIn_nil (then_n ?_)
  refine w_seq (w_region ?_)
  refine qp 13 (.slice a0_a a0.length a0_c) hK fun fr hK => ?_
  refine qp 14 (.int .i64 s1) hK fun fr hK => ?_
  replace a0_f := Els.mono rep_G_Command a0_f l1
  obtain ⟨x2, hy1, h⟩ := bind_some h
  refine qo 15 hK (s_slcTo elT25_1 a0_f hy1 hK.at_ rfl rfl rfl ?_)
  clear hK fr; intro ad1 cp1 f1 fr hK
  refine qp 16 (.int .i64 (x2.length : Int)) hK fun fr hK => ?_
  refine qp 17 (.int .i64 0) hK fun fr hK => ?_
  refine wpListIn_nil (then_n ?_)
  refine wpIn_block ?_
  refine w_loopL h (fun (s2 : Int) fr ww => ∃ m2 : Mem, m2.w = ww ∧ Kn 36 fr [(0, .slice a0_a a0.length a0_c), (3, .int .i64 s1), (9, .int .i64 (a0.length : Int)), (10, .int .i64 s1), (15, .slice ad1 x2.length cp1), (16, .int .i64 (x2.length : Int)), (17, .int .i64 s2)] ∧ Le m1 m2 ∧ St (blocksOf []) m m2 []) ?_ ?_
  · exact ⟨m1, rfl, hK.only [0, 3, 9, 10, 15, 16, 17], Le.refl _, hS⟩
  clear hK hS fr h
  rintro k2 s2 x3 fr _ ⟨m2, rfl, hK, l2, hS⟩ h hn2
  unfold G.delta_overlap_l2 at h
  refine w_seq (w_region ?_)
  refine qp 18 (.bool (decide (s2 < (x2.length : Int)))) hK fun fr hK => ?_
  refine wpListIn_nil (then_n ?_)
  refine w_seq ?_
  refine w_cond hK rfl (fun hb2 => ?_) (fun hb2 => ?_)
  ·
   replace hK := hK.more (t := 18) (v' := .bool true) rfl (by rw [hb2])
   replace h := ite_t (of_decide_eq_true hb2) h
   refine wpIn_skip ?_
   refine then_n ?_
   refine w_seq ?_
   refine wpIn_block ?_
   refine w_seq (w_region ?_)
   replace f1 := Els.mono rep_G_Command f1 l2
   obtain ⟨x4, hy2, h⟩ := bind_some h
   refine qo 19 hK (s_idx elT25_1 f1 hy2 hK.at_ rfl rfl rfl ?_)
   clear hK fr; intro b1 p1 cs1 hR1 hA1 fr hK
   obtain ⟨e1_data_a, e1_data_c, rfl, e1_data_f⟩ := hR1
   refine qo 20 hK (s_loadAtN [.int .i64 x4.kind, .int .i64 x4.to, .int .i64 x4.from_, .int .i64 x4.len, .slice e1_data_a x4.data.length e1_data_c] hK.at_ hA1 0 rfl rfl rfl (by kernel_rfl) (by kernel_rfl) ?_)
   clear hK fr; intro fr hK
   refine qo 5 hK (s_alloc (.agg #[.int .i64 0, .int .i64 0, .int .i64 0, .int .i64 0, .slice none 0 0]) hK.at_ hS rfl (by kernel_rfl) ?_)
   clear hK fr hS; intro m3 b2 b2z l3 hS fr hK
   refine qo0 hK (s_storeAll hK.at_ 0 hS rfl rfl rfl rfl (by kernel_rfl) (by kernel_rfl) (by kernel_rfl) ?_)
   clear hK fr hS; intro m4 l4 hS fr hK
   replace hS : St _ m m4 [.box b2 #[.int .i64 x4.kind, .int .i64 x4.to, .int .i64 x4.from_, .int .i64 x4.len, .slice e1_data_a x4.data.length e1_data_c] 50] := hS
   refine wpListIn_nil (then_n ?_)
   refine w_seq ?_
   replace a0_f := Els.mono rep_G_Command a0_f (l2.trans (l3.trans l4))
   replace f1 := Els.mono rep_G_Command f1 (l3.trans l4)
   replace e1_data_f := Els.mono rep_U8 e1_data_f (l3.trans l4)
   replace hA1 := hA1.mono (l3.trans l4)
   obtain ⟨x5, hy3, h⟩ := bind_some h
   obtain ⟨y1, hy4, h⟩ := bind_some h
   obtain ⟨y2, hy5, h⟩ := bind_some h
   obtain ⟨y3, hy6, h⟩ := bind_some h
   have hm0 : ∀ p ∈ ([(fun _ A _ => A = []), (fun l A M => ∃ (b4 : Nat), l[0]? = some (.pointer (some ⟨b4, 0, none⟩)) ∧ A = [.box b4 #[.int .i64 0, .int .i64 0] 91]), (fun l A M => ∃ (b4 : Nat), l[0]? = some (.pointer (some ⟨b4, 0, none⟩)) ∧ A = [.box b4 #[.int .i64 y3.1.off, .int .i64 y3.1.len] 91])] : List D.Stage), D.MonoP p := D.allP_cons (fun _ _ _ _ h _ => h) (D.allP_cons (fun _ _ _ _ ⟨b4, el0, eA⟩ hl => ⟨b4, el0, eA⟩) (D.allP_cons (fun _ _ _ _ ⟨b4, el0, eA⟩ hl => ⟨b4, el0, eA⟩) (D.allP_nil)))
   have hCm := D.C1_mono [.box b2 #[.int .i64 x4.kind, .int .i64 x4.to, .int .i64 x4.from_, .int .i64 x4.len, .slice e1_data_a x4.data.length e1_data_c] 50] hm0
   refine D.wp_drawM (m0 := m4) 13 [[11, 12]] [([(0, none)], [(0, 1)], none), ([(3, none)], [(0, 1)], none), ([(22, some 1), (23, some 0)], [(0, 1)], none), ([(24, some 0)], [(0, 1)], none), ([(25, some 0)], [(0, 1)], none), ([(5, none)], [(0, 1)], none), ([(27, some 0)], [(0, 1)], none), ([(26, some 2), (28, some 0)], [(0, 1)], none), ([(29, some 0)], [(0, 1)], none), ([(21, some 0)], [(0, 1)], none), ([(21, some 1)], [(0, 2)], none), ([], [(0, 0)], some 0), ([(6, some 0), (30, some 2)], [(1, 1)], some 0)] (D.SM m4 m (blocksOf []) (D.C1 [(fun _ A _ => A = []), (fun l A M => ∃ (b4 : Nat), l[0]? = some (.pointer (some ⟨b4, 0, none⟩)) ∧ A = [.box b4 #[.int .i64 0, .int .i64 0] 91]), (fun l A M => ∃ (b4 : Nat), l[0]? = some (.pointer (some ⟨b4, 0, none⟩)) ∧ A = [.box b4 #[.int .i64 y3.1.off, .int .i64 y3.1.len] 91])] [.box b2 #[.int .i64 x4.kind, .int .i64 x4.to, .int .i64 x4.from_, .int .i64 x4.len, .slice e1_data_a x4.data.length e1_data_c] 50])) hK.size (by kernel_rfl) (by kernel_rfl) (by kernel_rfl) (D.start1 hS (fun _ => rfl)) ?_
   refine D.onP [(0, .slice a0_a a0.length a0_c)] (.slice a0_a a0.length a0_c) (fun ac MM hk => (.cons (hk.1.trans (hK.at_ 0 _ rfl)) (.nil _))) ?_
   refine D.onP [(3, .int .i64 s1)] (.int .i64 s1) (fun ac MM hk => (.cons (hk.1.trans (hK.at_ 3 _ rfl)) (.nil _))) ?_
   refine D.onA (fun uu MM => ∃ (b3 : Nat) (p2 : Nat) (e2_data_a : Option Addr) (e2_data_c : Nat), uu = .pointer (some ⟨b3, p2, none⟩) ∧ At MM b3 p2 [.int .i64 x5.kind, .int .i64 x5.to, .int .i64 x5.from_, .int .i64 x5.len, .slice e2_data_a x5.data.length e2_data_c] ∧ Els isU8 MM 1 e2_data_a e2_data_c x5.data) (fun _ _ _ ⟨b3, p2, e2_data_a, e2_data_c, e, hA2, e2_data_f⟩ g => ⟨b3, p2, e2_data_a, e2_data_c, e, hA2.mono g, Els.mono rep_U8 e2_data_f g⟩) (by
    intro ac MM vs hbd hcor hS00 hk; have hS0 := hS00
    obtain ⟨hle, LL, hC, hSt⟩ := hS0
    have hSt0 := hSt
    have hC0 := hC; obtain ⟨A0, h0, rfl⟩ := hC
    have hS := D.St_right (hSt)
    have k22 : ac.eval (.tmp 22) = .slice a0_a a0.length a0_c := hk.1
    have k23 : ac.eval (.tmp 23) = .int .i64 s1 := hk.2.1
    have hKe : Ke ac [(22, .slice a0_a a0.length a0_c), (23, .int .i64 s1)] := (.cons k22 (.cons k23 (.nil _)))
    replace a0_f := Els.mono rep_G_Command a0_f hle
    exact ⟨D.wanted0 rfl, s_idx elT25_1 a0_f hy3 hKe rfl rfl rfl (by
      intro b3 p2 cs2 hR2 hA2
      obtain ⟨e2_data_a, e2_data_c, rfl, e2_data_f⟩ := hR2
      exact ⟨MM, rfl, Le.refl _, ⟨b3, p2, e2_data_a, e2_data_c, rfl, hA2, e2_data_f⟩, hS00⟩)⟩) ?_
   refine D.onA (fun uu MM => ∃ (b3 : Nat) (p2 : Nat) (e2_data_a : Option Addr) (e2_data_c : Nat), uu = .agg #[.int .i64 x5.kind, .int .i64 x5.to, .int .i64 x5.from_, .int .i64 x5.len, .slice e2_data_a x5.data.length e2_data_c] ∧ At MM b3 p2 [.int .i64 x5.kind, .int .i64 x5.to, .int .i64 x5.from_, .int .i64 x5.len, .slice e2_data_a x5.data.length e2_data_c] ∧ Els isU8 MM 1 e2_data_a e2_data_c x5.data) (fun _ _ _ ⟨b3, p2, e2_data_a, e2_data_c, e, hA2, e2_data_f⟩ g => ⟨b3, p2, e2_data_a, e2_data_c, e, hA2.mono g, Els.mono rep_U8 e2_data_f g⟩) (by
    intro ac MM vs hbd hcor hS00 hk; have hS0 := hS00
    obtain ⟨hle, LL, hC, hSt⟩ := hS0
    have hSt0 := hSt
    have hC0 := hC; obtain ⟨A0, h0, rfl⟩ := hC
    have hS := D.St_right (hSt)
    obtain ⟨b3, p2, e2_data_a, e2_data_c, k24, hA2, e2_data_f⟩ : ∃ (b3 : Nat) (p2 : Nat) (e2_data_a : Option Addr) (e2_data_c : Nat), ac.eval (.tmp 24) = .pointer (some ⟨b3, p2, none⟩) ∧ At MM b3 p2 [.int .i64 x5.kind, .int .i64 x5.to, .int .i64 x5.from_, .int .i64 x5.len, .slice e2_data_a x5.data.length e2_data_c] ∧ Els isU8 MM 1 e2_data_a e2_data_c x5.data := hk.1
    have hKe : Ke ac [(24, .pointer (some ⟨b3, p2, none⟩))] := (.cons k24 (.nil _))
    exact ⟨D.wanted0 rfl, s_loadAtN [.int .i64 x5.kind, .int .i64 x5.to, .int .i64 x5.from_, .int .i64 x5.len, .slice e2_data_a x5.data.length e2_data_c] hKe hA2 0 rfl rfl rfl (by kernel_rfl) (by kernel_rfl) ⟨MM, rfl, Le.refl _, ⟨b3, p2, e2_data_a, e2_data_c, rfl, hA2, e2_data_f⟩, hS00⟩⟩) ?_
   refine D.onA (fun uu _ => uu = .agg #[.int .i64 y1.off, .int .i64 y1.len]) (fun _ _ _ h _ => h) (by
    intro ac MM vs hbd hcor hS00 hk; have hS0 := hS00
    obtain ⟨hle, LL, hC, hSt⟩ := hS0
    have hSt0 := hSt
    have hC0 := hC; obtain ⟨A0, h0, rfl⟩ := hC
    have hS := D.St_right (hSt)
    obtain ⟨b3, p2, e2_data_a, e2_data_c, k25, hA2, e2_data_f⟩ : ∃ (b3 : Nat) (p2 : Nat) (e2_data_a : Option Addr) (e2_data_c : Nat), ac.eval (.tmp 25) = .agg #[.int .i64 x5.kind, .int .i64 x5.to, .int .i64 x5.from_, .int .i64 x5.len, .slice e2_data_a x5.data.length e2_data_c] ∧ At MM b3 p2 [.int .i64 x5.kind, .int .i64 x5.to, .int .i64 x5.from_, .int .i64 x5.len, .slice e2_data_a x5.data.length e2_data_c] ∧ Els isU8 MM 1 e2_data_a e2_data_c x5.data := hk.1
    have hKe : Ke ac [(25, .agg #[.int .i64 x5.kind, .int .i64 x5.to, .int .i64 x5.from_, .int .i64 x5.len, .slice e2_data_a x5.data.length e2_data_c])] := (.cons k25 (.nil _))
    exact ⟨D.wanted0 rfl, D.stepCall hCm hS00 hKe ent88_1 rfl rfl rfl rfl (G.command_Target_spec e2_data_f hy4) (by kernel_rfl) (by rintro _ M2 _ hl ⟨rfl, rfl⟩; exact rfl)⟩) ?_
   refine D.onA (fun uu _ => uu = .agg #[.int .i64 x4.kind, .int .i64 x4.to, .int .i64 x4.from_, .int .i64 x4.len, .slice e1_data_a x4.data.length e1_data_c]) (fun _ _ _ h _ => h) (by
    intro ac MM vs hbd hcor hS00 hk; have hS0 := hS00
    obtain ⟨hle, LL, hC, hSt⟩ := hS0
    have hSt0 := hSt
    have hC0 := hC; obtain ⟨A0, h0, rfl⟩ := hC
    have hS := D.St_right (hSt)
    have k5 : ac.eval (.tmp 5) = .pointer (some ⟨b2, 0, none⟩) := hk.1.trans (hK.at_ 5 _ rfl)
    have hKe : Ke ac [(5, .pointer (some ⟨b2, 0, none⟩))] := (.cons k5 (.nil _))
    exact ⟨D.wanted0 rfl, s_loadAll hKe hS 0 rfl rfl rfl (by kernel_rfl) ⟨MM, rfl, Le.refl _, rfl, hS00⟩⟩) ?_
   refine D.onA (fun uu _ => uu = .agg #[.int .i64 y2.off, .int .i64 y2.len]) (fun _ _ _ h _ => h) (by
    intro ac MM vs hbd hcor hS00 hk; have hS0 := hS00
    obtain ⟨hle, LL, hC, hSt⟩ := hS0
    have hSt0 := hSt
    have hC0 := hC; obtain ⟨A0, h0, rfl⟩ := hC
    have hS := D.St_right (hSt)
    have k27 : ac.eval (.tmp 27) = .agg #[.int .i64 x4.kind, .int .i64 x4.to, .int .i64 x4.from_, .int .i64 x4.len, .slice e1_data_a x4.data.length e1_data_c] := hk.1
    have hKe : Ke ac [(27, .agg #[.int .i64 x4.kind, .int .i64 x4.to, .int .i64 x4.from_, .int .i64 x4.len, .slice e1_data_a x4.data.length e1_data_c])] := (.cons k27 (.nil _))
    replace e1_data_f := Els.mono rep_U8 e1_data_f hle
    exact ⟨D.wanted0 rfl, D.stepCall hCm hS00 hKe ent88_1 rfl rfl rfl rfl (G.command_Target_spec e1_data_f hy5) (by kernel_rfl) (by rintro _ M2 _ hl ⟨rfl, rfl⟩; exact rfl)⟩) ?_
   refine D.onA (fun uu _ => uu = .tuple #[.agg #[.int .i64 y3.1.off, .int .i64 y3.1.len], .bool y3.2]) (fun _ _ _ h _ => h) (by
    intro ac MM vs hbd hcor hS00 hk; have hS0 := hS00
    obtain ⟨hle, LL, hC, hSt⟩ := hS0
    have hSt0 := hSt
    have hC0 := hC; obtain ⟨A0, h0, rfl⟩ := hC
    have hS := D.St_right (hSt)
    have k26 : ac.eval (.tmp 26) = .agg #[.int .i64 y1.off, .int .i64 y1.len] := hk.1
    have k28 : ac.eval (.tmp 28) = .agg #[.int .i64 y2.off, .int .i64 y2.len] := hk.2.1
    have hKe : Ke ac [(26, .agg #[.int .i64 y1.off, .int .i64 y1.len]), (28, .agg #[.int .i64 y2.off, .int .i64 y2.len])] := (.cons k26 (.cons k28 (.nil _)))
    exact ⟨D.wanted0 rfl, D.stepCall hCm hS00 hKe ent94_1 rfl rfl rfl rfl (G.extent_Overlap_spec hy6) (by kernel_rfl) (by rintro _ M2 _ hl ⟨rfl, rfl⟩; exact rfl)⟩) ?_
   refine D.onP [(29, .tuple #[.agg #[.int .i64 y3.1.off, .int .i64 y3.1.len], .bool y3.2])] (.tuple #[.agg #[.int .i64 y3.1.off, .int .i64 y3.1.len], .bool y3.2]) (fun ac MM hk => (.cons (hk.1) (.nil _))) ?_
   refine D.onP [(21, .tuple #[.agg #[.int .i64 y3.1.off, .int .i64 y3.1.len], .bool y3.2])] (.agg #[.int .i64 y3.1.off, .int .i64 y3.1.len]) (fun ac MM hk => (.cons (hk.1) (.nil _))) ?_
   refine D.onP [(21, .tuple #[.agg #[.int .i64 y3.1.off, .int .i64 y3.1.len], .bool y3.2])] (.bool y3.2) (fun ac MM hk => (.cons (hk.1) (.nil _))) ?_
   refine D.onA (fun uu MM => ∃ (b4 : Nat), uu = .pointer (some ⟨b4, 0, none⟩)) (fun _ _ _ ⟨b4, e⟩ g => ⟨b4, e⟩) (by
    intro ac MM vs hbd hcor hS00 hk; have hS0 := hS00
    obtain ⟨hle, LL, hC, hSt⟩ := hS0
    have hSt0 := hSt
    have hC0 := hC; obtain ⟨A0, h0, rfl⟩ := hC
    have hn := D.bd_eq hbd 0 0 rfl
    obtain rfl := D.CH.at h0 hn rfl
    replace hSt := hSt
    have hKe : Ke ac [] := (.nil _)
    exact ⟨D.wanted0 rfl, s_alloc (.agg #[.int .i64 0, .int .i64 0]) hKe hSt rfl (by kernel_rfl) (by
      intro M2 b4 hz l2 hS2
      exact ⟨M2, rfl, l2, ⟨b4, rfl⟩, hle.trans l2, _, ⟨_, D.CH.push hn rfl ⟨b4, D.get_push hn, rfl⟩, rfl⟩, hS2⟩)⟩) ?_
   refine D.onA (fun _ _ => True) (fun _ _ _ h _ => h) (by
    intro ac MM vs hbd hcor hS00 hk; have hS0 := hS00
    obtain ⟨hle, LL, hC, hSt⟩ := hS0
    have hSt0 := hSt
    have hC0 := hC; obtain ⟨A0, h0, rfl⟩ := hC
    have hn := D.bd_eq hbd 0 1 rfl
    obtain ⟨b4, el0, rfl⟩ := D.CH.at h0 hn rfl
    replace hSt := hSt
    have k6 : ac.eval (.tmp 6) = .pointer (some ⟨b4, 0, none⟩) := hcor 0 0 _ _ _ _ rfl rfl rfl el0
    have k30 : ac.eval (.tmp 30) = .agg #[.int .i64 y3.1.off, .int .i64 y3.1.len] := hk.2.1
    have hKe : Ke ac [(6, .pointer (some ⟨b4, 0, none⟩)), (30, .agg #[.int .i64 y3.1.off, .int .i64 y3.1.len])] := (.cons k6 (.cons k30 (.nil _)))
    exact ⟨D.wanted0 rfl, s_storeAll hKe 0 hSt rfl rfl rfl rfl (by kernel_rfl) (by kernel_rfl) (by kernel_rfl) (by
      intro M2 l2 hS2
      exact ⟨M2, rfl, l2, trivial, hle.trans l2, _, ⟨_, D.CH.push hn rfl ⟨b4, D.get_old el0, rfl⟩, rfl⟩, hS2⟩)⟩) ?_
   intro fr2 m5 vs hlen hcor hS2 hE; obtain ⟨l5, LL, hC, hS2⟩ := hS2
   obtain ⟨A0, h0, rfl⟩ := hC
   obtain ⟨b4, el0_0, rfl⟩ := D.CH.at h0 (hlen 0) rfl
   replace hS2 : St _ m m5 [.box b4 #[.int .i64 y3.1.off, .int .i64 y3.1.len] 91, .box b2 #[.int .i64 x4.kind, .int .i64 x4.to, .int .i64 x4.from_, .int .i64 x4.len, .slice e1_data_a x4.data.length e1_data_c] 50] := hS2
   have kl6 : fr2.eval (.tmp 6) = .pointer (some ⟨b4, 0, none⟩) := hcor 0 0 _ _ _ _ rfl rfl rfl el0_0
   have hK2 := D.kn_endsM [(22, .slice a0_a a0.length a0_c), (23, .int .i64 s1), (24, fr2.eval (.tmp 24)), (25, fr2.eval (.tmp 25)), (26, .agg #[.int .i64 y1.off, .int .i64 y1.len]), (27, .agg #[.int .i64 x4.kind, .int .i64 x4.to, .int .i64 x4.from_, .int .i64 x4.len, .slice e1_data_a x4.data.length e1_data_c]), (28, .agg #[.int .i64 y2.off, .int .i64 y2.len]), (29, .tuple #[.agg #[.int .i64 y3.1.off, .int .i64 y3.1.len], .bool y3.2]), (21, .tuple #[.agg #[.int .i64 y3.1.off, .int .i64 y3.1.len], .bool y3.2]), (30, .agg #[.int .i64 y3.1.off, .int .i64 y3.1.len]), (31, .bool y3.2), (6, .pointer (some ⟨b4, 0, none⟩))] hK hE rfl (by kernel_rfl) (.cons (hE.slots 22) (.cons (hE.slots 23) (.cons (rfl) (.cons (rfl) (.cons (hE.slots 26) (.cons (hE.slots 27) (.cons (hE.slots 28) (.cons (hE.slots 29) (.cons (hE.slots 21) (.cons (hE.slots 30) (.cons (hE.slots 31) (.cons (kl6) (.nil _)))))))))))))
   replace hK2 : Kn 36 fr2 [(22, .slice a0_a a0.length a0_c), (23, .int .i64 s1), (26, .agg #[.int .i64 y1.off, .int .i64 y1.len]), (27, .agg #[.int .i64 x4.kind, .int .i64 x4.to, .int .i64 x4.from_, .int .i64 x4.len, .slice e1_data_a x4.data.length e1_data_c]), (28, .agg #[.int .i64 y2.off, .int .i64 y2.len]), (29, .tuple #[.agg #[.int .i64 y3.1.off, .int .i64 y3.1.len], .bool y3.2]), (21, .tuple #[.agg #[.int .i64 y3.1.off, .int .i64 y3.1.len], .bool y3.2]), (30, .agg #[.int .i64 y3.1.off, .int .i64 y3.1.len]), (31, .bool y3.2), (6, .pointer (some ⟨b4, 0, none⟩)), (5, .pointer (some ⟨b2, 0, none⟩)), (20, .agg #[.int .i64 x4.kind, .int .i64 x4.to, .int .i64 x4.from_, .int .i64 x4.len, .slice e1_data_a x4.data.length e1_data_c]), (19, .pointer (some ⟨b1, p1, none⟩)), (18, .bool true), (0, .slice a0_a a0.length a0_c), (3, .int .i64 s1), (9, .int .i64 (a0.length : Int)), (10, .int .i64 s1), (15, .slice ad1 x2.length cp1), (16, .int .i64 (x2.length : Int)), (17, .int .i64 s2)] := hK2.only [22, 23, 26, 27, 28, 29, 21, 30, 31, 6, 5, 20, 19, 18, 0, 3, 9, 10, 15, 16, 17]
   clear hE hK hcor hlen kl6 h0 el0_0; revert hK2; clear hS; revert fr2; clear fr; intro fr hK; have hS := hS2; clear hS2 hCm hm0
   replace hS : St _ m m5 [.box b4 #[.int .i64 y3.1.off, .int .i64 y3.1.len] 91, .box b2 #[.int .i64 x4.kind, .int .i64 x4.to, .int .i64 x4.from_, .int .i64 x4.len, .slice e1_data_a x4.data.length e1_data_c] 50] := hS
   refine qp 7 (.bool y3.2) hK fun fr hK => ?_
   refine wpListIn_nil (then_n ?_)
   refine w_seq (w_region ?_)
   refine qp 32 (.bool y3.2) hK fun fr hK => ?_
   refine wpListIn_nil (then_n ?_)
   refine w_cond hK rfl (fun hb3 => ?_) (fun hb3 => ?_)
   ·
    replace hK := hK.more (t := 32) (v' := .bool true) rfl (by rw [hb3])
    replace hK := hK.more (t := 7) (v' := .bool true) rfl (by rw [hb3])
    replace hK := hK.more (t := 31) (v' := .bool true) rfl (by rw [hb3])
    replace h := ite_t (hb3) h
    refine w_seq (w_region ?_)
    refine qp 33 (.int .i64 s1) hK fun fr hK => ?_
    refine qp 2 (.int .i64 s1) hK fun fr hK => ?_
    refine wpListIn_nil (then_n ?_)
    refine wpIn_ret ?_
    refine blk_r ?_
    refine then_r ?_
    refine then_r ?_
    refine blk_r ?_
    refine blk_r ?_
    refine then_r ?_
    refine then_r ?_
    refine blk_r ?_
    refine then_r ?_
    replace h := Option.some.inj h; subst h
    replace h := Option.some.inj (loop_out hn2); subst h
    replace h := Option.some.inj (loop_out hn1); subst h
    refine ret_of [.tmp 2] [.int .i64 s1] rfl hK (.tmp rfl .nil) hS.dropAll ?_
    exact ⟨rfl, rfl⟩
   ·
    replace hK := hK.more (t := 32) (v' := .bool false) rfl (by rw [hb3])
    replace hK := hK.more (t := 7) (v' := .bool false) rfl (by rw [hb3])
    replace hK := hK.more (t := 31) (v' := .bool false) rfl (by rw [hb3])
    replace h := ite_f (ne_true_of_eq_false hb3) h
    refine wpIn_skip ?_
    refine blk_n ?_
    refine then_n ?_
    refine w_region ?_
    refine qp 34 (.int .i64 (IntKind.i64.wrap (s2 + 1))) hK fun fr hK => ?_
    refine qp 17 (.int .i64 (IntKind.i64.wrap (s2 + 1))) hK fun fr hK => ?_
    refine wpListIn_nil (then_n ?_)
    replace hS := St.keep (L := []) (R := [.box b4 #[.int .i64 y3.1.off, .int .i64 y3.1.len] 91, .box b2 #[.int .i64 x4.kind, .int .i64 x4.to, .int .i64 x4.from_, .int .i64 x4.len, .slice e1_data_a x4.data.length e1_data_c] 50]) hS
    replace h := Option.some.inj h; subst h
    obtain ⟨kq, hk1, hk2⟩ := hn2
    exact ⟨kq, hk1, _, hk2, m5, rfl, hK.only [0, 3, 9, 10, 15, 16, 17], l2.trans (l3.trans (l4.trans l5)), hS⟩
  ·
   replace hK := hK.more (t := 18) (v' := .bool false) rfl (by rw [hb2])
   replace h := ite_f (of_decide_eq_false hb2) h
   refine wpIn_exit ?_
   refine then_x ?_
   refine then_x ?_
   refine blk_e ?_
   refine blk_n ?_
   refine then_n ?_
   refine w_region ?_
   refine qp 35 (.int .i64 (IntKind.i64.wrap (s1 + 1))) hK fun fr hK => ?_
   refine qp 10 (.int .i64 (IntKind.i64.wrap (s1 + 1))) hK fun fr hK => ?_
   refine wpListIn_nil (then_n ?_)
   replace h := Option.some.inj h; subst h
   replace h := Option.some.inj (loop_out hn2); subst h
   obtain ⟨kq, hk1, hk2⟩ := hn1
   exact ⟨kq, hk1, _, hk2, m2, rfl, hK.only [0, 9, 10], l1.trans l2, hS⟩
 ·
  replace hK := hK.more (t := 11) (v' := .bool false) rfl (by rw [hb1])
  replace h := ite_f (of_decide_eq_false hb1) h
  refine wpIn_exit ?_
  refine then_x ?_
  refine then_x ?_
  refine blk_e ?_
  refine then_n ?_
  refine w_seq (w_region ?_)
  refine qp 2 (.int .i64 (-1)) hK fun fr hK => ?_
  refine wpListIn_nil (then_n ?_)
  refine wpIn_ret ?_
  replace h := Option.some.inj h; subst h
  replace h := Option.some.inj (loop_out hn1); subst h
  refine ret_of [.tmp 2] [.int .i64 (-1)] rfl hK (.tmp rfl .nil) hS.dropAll ?_
  exact ⟨rfl, rfl⟩
end Go.Proofs.Ytkalbidbhaalmaa
