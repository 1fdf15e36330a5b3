/- The program computes the plain functions: graftref05_With, graftref04_Same, graftref04_All, graftref05_Same. Printed by a program. -/
import Derived.Test.YtkalbidbhaalmaaProg
import Derived.Test.YtkalbidbhaalmaaGs
import Derived.Test.YtkalbidbhaalmaaRep
namespace Go.Proofs.Ytkalbidbhaalmaa
open Go.RowKit G
theorem ent36_5 : Enters Try.prog 36 := enters_of Try.func36 (by decide +kernel) (by decide +kernel)
theorem ent74_5 : Enters Try.prog 74 := enters_of Try.func74 (by decide +kernel) (by decide +kernel)
theorem elT25_5 : ElemT Try.prog 25 50 (.agg #[.int .i64 0, .int .i64 0, .int .i64 0, .int .i64 0, .slice none 0 0]) 5 56 := ⟨by kernel_rfl, by kernel_rfl, by kernel_rfl, by decide⟩
theorem eqH24_5 (f g : Nat → UInt8) (w : World) : (binOp .eql 24 (.agg #[.int .u8 ((f 0).toNat), .int .u8 ((f 1).toNat), .int .u8 ((f 2).toNat), .int .u8 ((f 3).toNat), .int .u8 ((f 4).toNat), .int .u8 ((f 5).toNat), .int .u8 ((f 6).toNat), .int .u8 ((f 7).toNat), .int .u8 ((f 8).toNat), .int .u8 ((f 9).toNat), .int .u8 ((f 10).toNat), .int .u8 ((f 11).toNat), .int .u8 ((f 12).toNat), .int .u8 ((f 13).toNat), .int .u8 ((f 14).toNat), .int .u8 ((f 15).toNat), .int .u8 ((f 16).toNat), .int .u8 ((f 17).toNat), .int .u8 ((f 18).toNat), .int .u8 ((f 19).toNat), .int .u8 ((f 20).toNat), .int .u8 ((f 21).toNat), .int .u8 ((f 22).toNat), .int .u8 ((f 23).toNat), .int .u8 ((f 24).toNat), .int .u8 ((f 25).toNat), .int .u8 ((f 26).toNat), .int .u8 ((f 27).toNat), .int .u8 ((f 28).toNat), .int .u8 ((f 29).toNat), .int .u8 ((f 30).toNat), .int .u8 ((f 31).toNat)]) (.agg #[.int .u8 ((g 0).toNat), .int .u8 ((g 1).toNat), .int .u8 ((g 2).toNat), .int .u8 ((g 3).toNat), .int .u8 ((g 4).toNat), .int .u8 ((g 5).toNat), .int .u8 ((g 6).toNat), .int .u8 ((g 7).toNat), .int .u8 ((g 8).toNat), .int .u8 ((g 9).toNat), .int .u8 ((g 10).toNat), .int .u8 ((g 11).toNat), .int .u8 ((g 12).toNat), .int .u8 ((g 13).toNat), .int .u8 ((g 14).toNat), .int .u8 ((g 15).toNat), .int .u8 ((g 16).toNat), .int .u8 ((g 17).toNat), .int .u8 ((g 18).toNat), .int .u8 ((g 19).toNat), .int .u8 ((g 20).toNat), .int .u8 ((g 21).toNat), .int .u8 ((g 22).toNat), .int .u8 ((g 23).toNat), .int .u8 ((g 24).toNat), .int .u8 ((g 25).toNat), .int .u8 ((g 26).toNat), .int .u8 ((g 27).toNat), .int .u8 ((g 28).toNat), .int .u8 ((g 29).toNat), .int .u8 ((g 30).toNat), .int .u8 ((g 31).toNat)])).run Try.prog w = .ok (.bool (hashEq f g)) w := by
  have h1 : ∀ f : Nat → UInt8, (#[.int .u8 ((f 0).toNat), .int .u8 ((f 1).toNat), .int .u8 ((f 2).toNat), .int .u8 ((f 3).toNat), .int .u8 ((f 4).toNat), .int .u8 ((f 5).toNat), .int .u8 ((f 6).toNat), .int .u8 ((f 7).toNat), .int .u8 ((f 8).toNat), .int .u8 ((f 9).toNat), .int .u8 ((f 10).toNat), .int .u8 ((f 11).toNat), .int .u8 ((f 12).toNat), .int .u8 ((f 13).toNat), .int .u8 ((f 14).toNat), .int .u8 ((f 15).toNat), .int .u8 ((f 16).toNat), .int .u8 ((f 17).toNat), .int .u8 ((f 18).toNat), .int .u8 ((f 19).toNat), .int .u8 ((f 20).toNat), .int .u8 ((f 21).toNat), .int .u8 ((f 22).toNat), .int .u8 ((f 23).toNat), .int .u8 ((f 24).toNat), .int .u8 ((f 25).toNat), .int .u8 ((f 26).toNat), .int .u8 ((f 27).toNat), .int .u8 ((f 28).toNat), .int .u8 ((f 29).toNat), .int .u8 ((f 30).toNat), .int .u8 ((f 31).toNat)] : Array Value) = hcells f := fun f => by kernel_rfl
  rw [h1 f, h1 g]; exact run_eqHash Try.underlying24 Try.underlying5 (by kernel_rfl) f g
theorem eqH24n_5 (f g : Nat → UInt8) (w : World) : (binOp .neq 24 (.agg #[.int .u8 ((f 0).toNat), .int .u8 ((f 1).toNat), .int .u8 ((f 2).toNat), .int .u8 ((f 3).toNat), .int .u8 ((f 4).toNat), .int .u8 ((f 5).toNat), .int .u8 ((f 6).toNat), .int .u8 ((f 7).toNat), .int .u8 ((f 8).toNat), .int .u8 ((f 9).toNat), .int .u8 ((f 10).toNat), .int .u8 ((f 11).toNat), .int .u8 ((f 12).toNat), .int .u8 ((f 13).toNat), .int .u8 ((f 14).toNat), .int .u8 ((f 15).toNat), .int .u8 ((f 16).toNat), .int .u8 ((f 17).toNat), .int .u8 ((f 18).toNat), .int .u8 ((f 19).toNat), .int .u8 ((f 20).toNat), .int .u8 ((f 21).toNat), .int .u8 ((f 22).toNat), .int .u8 ((f 23).toNat), .int .u8 ((f 24).toNat), .int .u8 ((f 25).toNat), .int .u8 ((f 26).toNat), .int .u8 ((f 27).toNat), .int .u8 ((f 28).toNat), .int .u8 ((f 29).toNat), .int .u8 ((f 30).toNat), .int .u8 ((f 31).toNat)]) (.agg #[.int .u8 ((g 0).toNat), .int .u8 ((g 1).toNat), .int .u8 ((g 2).toNat), .int .u8 ((g 3).toNat), .int .u8 ((g 4).toNat), .int .u8 ((g 5).toNat), .int .u8 ((g 6).toNat), .int .u8 ((g 7).toNat), .int .u8 ((g 8).toNat), .int .u8 ((g 9).toNat), .int .u8 ((g 10).toNat), .int .u8 ((g 11).toNat), .int .u8 ((g 12).toNat), .int .u8 ((g 13).toNat), .int .u8 ((g 14).toNat), .int .u8 ((g 15).toNat), .int .u8 ((g 16).toNat), .int .u8 ((g 17).toNat), .int .u8 ((g 18).toNat), .int .u8 ((g 19).toNat), .int .u8 ((g 20).toNat), .int .u8 ((g 21).toNat), .int .u8 ((g 22).toNat), .int .u8 ((g 23).toNat), .int .u8 ((g 24).toNat), .int .u8 ((g 25).toNat), .int .u8 ((g 26).toNat), .int .u8 ((g 27).toNat), .int .u8 ((g 28).toNat), .int .u8 ((g 29).toNat), .int .u8 ((g 30).toNat), .int .u8 ((g 31).toNat)])).run Try.prog w = .ok (.bool (!hashEq f g)) w := by
  have h1 : ∀ f : Nat → UInt8, (#[.int .u8 ((f 0).toNat), .int .u8 ((f 1).toNat), .int .u8 ((f 2).toNat), .int .u8 ((f 3).toNat), .int .u8 ((f 4).toNat), .int .u8 ((f 5).toNat), .int .u8 ((f 6).toNat), .int .u8 ((f 7).toNat), .int .u8 ((f 8).toNat), .int .u8 ((f 9).toNat), .int .u8 ((f 10).toNat), .int .u8 ((f 11).toNat), .int .u8 ((f 12).toNat), .int .u8 ((f 13).toNat), .int .u8 ((f 14).toNat), .int .u8 ((f 15).toNat), .int .u8 ((f 16).toNat), .int .u8 ((f 17).toNat), .int .u8 ((f 18).toNat), .int .u8 ((f 19).toNat), .int .u8 ((f 20).toNat), .int .u8 ((f 21).toNat), .int .u8 ((f 22).toNat), .int .u8 ((f 23).toNat), .int .u8 ((f 24).toNat), .int .u8 ((f 25).toNat), .int .u8 ((f 26).toNat), .int .u8 ((f 27).toNat), .int .u8 ((f 28).toNat), .int .u8 ((f 29).toNat), .int .u8 ((f 30).toNat), .int .u8 ((f 31).toNat)] : Array Value) = hcells f := fun f => by kernel_rfl
  rw [h1 f, h1 g]; exact run_neHash Try.underlying24 Try.underlying5 (by kernel_rfl) f g
set_option maxRecDepth 100000 in
set_option maxHeartbeats 1000000 in
theorem G.graftref05_With_spec {m : Mem} {a0 : G.Delta} {a0_commands_a : Option Addr} {a0_commands_c : Nat} {a1 : List G.Command} {a1_a : Option Addr} {a1_c : Nat} (a0_commands_f : Els is_G_Command m 5 a0_commands_a a0_commands_c a0.commands) (a1_f : Els is_G_Command m 5 a1_a a1_c a1) {r : G.Delta} (h : G.graftref05_With a0 a1 = some r) :
  Spec Try.prog 30 #[.agg (G_Delta_cells a0 a0_commands_a a0_commands_c), .slice a1_a a1.length a1_c] m [] fun v m' L => ∃ (r0_commands_a : Option Addr) (r0_commands_c : Nat), L = [] ∧ v = .agg (G_Delta_cells r r0_commands_a r0_commands_c) ∧ Els is_G_Command m' 5 r0_commands_a r0_commands_c r.commands := by
 unfold G.graftref05_With at h
 refine enter (args := [_, _]) 8 Try.func30 rfl rfl (by simp) fun fr hK => ?_
 have hS := St.refl (Ow.nil m)
 replace hK : Kn 8 fr [(0, .agg (G_Delta_cells a0 a0_commands_a a0_commands_c)), (1, .slice a1_a a1.length a1_c)] := hK
 refine w_seq (w_region ?_)
 refine qo 2 hK (s_box hK.at_ hS rfl rfl ?_)
 clear hK fr hS; intro m1 b1 b1z l1 hS fr hK
 refine qo 4 hK (s_alloc (.agg #[.int .i64 0, .int .i64 0, .int .u8 0, .int .u8 0, .int .u8 0, .int .u8 0, .int .u8 0, .int .u8 0, .int .u8 0, .int .u8 0, .int .u8 0, .int .u8 0, .int .u8 0, .int .u8 0, .int .u8 0, .int .u8 0, .int .u8 0, .int .u8 0, .int .u8 0, .int .u8 0, .int .u8 0, .int .u8 0, .int .u8 0, .int .u8 0, .int .u8 0, .int .u8 0, .int .u8 0, .int .u8 0, .int .u8 0, .int .u8 0, .int .u8 0, .int .u8 0, .int .u8 0, .int .u8 0, .int .u8 0, .int .u8 0, .int .u8 0, .int .u8 0, .int .u8 0, .int .u8 0, .int .u8 0, .int .u8 0, .int .u8 0, .int .u8 0, .int .u8 0, .int .u8 0, .int .u8 0, .int .u8 0, .int .u8 0, .int .u8 0, .int .u8 0, .int .u8 0, .int .u8 0, .int .u8 0, .int .u8 0, .int .u8 0, .int .u8 0, .int .u8 0, .int .u8 0, .int .u8 0, .int .u8 0, .int .u8 0, .int .u8 0, .int .u8 0, .int .u8 0, .int .u8 0, .slice none 0 0]) hK.at_ hS rfl (by kernel_rfl) ?_)
 clear hK fr hS; intro m2 b2 b2z l2 hS fr hK
 replace hS : St _ m m2 [.box b2 (G_Delta_cells (⟨0, 0, (fun _ => (0 : UInt8)), (fun _ => (0 : UInt8)), ([] : List G.Command)⟩ : G.Delta) none 0) 27, .box b1 (G_Delta_cells a0 a0_commands_a a0_commands_c) 27] := hS
 refine wpListIn_nil (then_n ?_)
 refine w_seq (w_region ?_)
 refine qp 5 (.slice a1_a a1.length a1_c) hK fun fr hK => ?_
 refine qp 6 (.pointer (some ⟨b1, 66, none⟩)) hK fun fr hK => ?_
 refine qo0 hK (s_store hK.at_ 1 hS rfl rfl rfl rfl (by kernel_rfl) (by kernel_rfl) (by kernel_rfl) ?_)
 clear hK fr hS; intro m3 l3 hS fr hK
 have hf1 : putAt (G_Delta_cells a0 a0_commands_a a0_commands_c) 66 [.slice a1_a a1.length a1_c] = G_Delta_cells (⟨a0.oldLen, a0.newLen, a0.oldHash, a0.newHash, a1⟩ : G.Delta) a1_a a1_c := by kernel_rfl
 replace hS : St _ m m3 [.box b1 (putAt (G_Delta_cells a0 a0_commands_a a0_commands_c) 66 [.slice a1_a a1.length a1_c]) 27, .box b2 (G_Delta_cells (⟨0, 0, (fun _ => (0 : UInt8)), (fun _ => (0 : UInt8)), ([] : List G.Command)⟩ : G.Delta) none 0) 27] := hS
 rw [hf1] at hS
 replace hS : St _ m m3 [.box b1 (G_Delta_cells (⟨a0.oldLen, a0.newLen, a0.oldHash, a0.newHash, a1⟩ : G.Delta) a1_a a1_c) 27, .box b2 (G_Delta_cells (⟨0, 0, (fun _ => (0 : UInt8)), (fun _ => (0 : UInt8)), ([] : List G.Command)⟩ : G.Delta) none 0) 27] := hS
 refine wpListIn_nil (then_n ?_)
 refine w_seq (w_region ?_)
 refine qo 7 hK (s_loadAll hK.at_ hS 0 rfl rfl rfl (by kernel_rfl) ?_)
 clear hK fr; intro fr hK
 refine qo0 hK (s_storeAll hK.at_ 1 hS rfl rfl rfl rfl (by kernel_rfl) (by kernel_rfl) (by kernel_rfl) ?_)
 clear hK fr hS; intro m4 l4 hS fr hK
 replace hS : St _ m m4 [.box b2 (G_Delta_cells (⟨a0.oldLen, a0.newLen, a0.oldHash, a0.newHash, a1⟩ : G.Delta) a1_a a1_c) 27, .box b1 (G_Delta_cells (⟨a0.oldLen, a0.newLen, a0.oldHash, a0.newHash, a1⟩ : G.Delta) a1_a a1_c) 27] := hS
 refine wpListIn_nil (then_n ?_)
 refine wpIn_ret ?_
 replace a1_f := Els.mono rep_G_Command a1_f (l1.trans (l2.trans (l3.trans l4)))
 replace h := Option.some.inj h; subst h
 refine ret_of [.cell 4 27] [.agg (G_Delta_cells (⟨a0.oldLen, a0.newLen, a0.oldHash, a0.newHash, a1⟩ : G.Delta) a1_a a1_c)] rfl hK (ResL.box hS 0 rfl rfl (by kernel_rfl) .nil) hS.dropAll ?_
 exact ⟨a1_a, a1_c, rfl, rfl, a1_f⟩
set_option maxRecDepth 100000 in
set_option maxHeartbeats 1000000 in
theorem G.graftref04_Same_spec {m : Mem} {a0 : G.Command} {a0_data_a : Option Addr} {a0_data_c : Nat} {a1 : G.Command} {a1_data_a : Option Addr} {a1_data_c : Nat} (a0_data_f : Els isU8 m 1 a0_data_a a0_data_c a0.data) (a1_data_f : Els isU8 m 1 a1_data_a a1_data_c a1.data) {r : Bool} (h : G.graftref04_Same a0 a1 = some r) :
  Spec Try.prog 74 #[.agg #[.int .i64 a0.kind, .int .i64 a0.to, .int .i64 a0.from_, .int .i64 a0.len, .slice a0_data_a a0.data.length a0_data_c], .agg #[.int .i64 a1.kind, .int .i64 a1.to, .int .i64 a1.from_, .int .i64 a1.len, .slice a1_data_a a1.data.length a1_data_c]] m [] fun v m' L => L = [] ∧ v = .bool r := by
 unfold G.graftref04_Same at h
 refine enter (args := [_, _]) 40 Try.func74 rfl rfl (by simp) fun fr hK => ?_
 have hS := St.refl (Ow.nil m)
 replace hK : Kn 40 fr [(0, .agg #[.int .i64 a0.kind, .int .i64 a0.to, .int .i64 a0.from_, .int .i64 a0.len, .slice a0_data_a a0.data.length a0_data_c]), (1, .agg #[.int .i64 a1.kind, .int .i64 a1.to, .int .i64 a1.from_, .int .i64 a1.len, .slice a1_data_a a1.data.length a1_data_c])] := hK
 refine w_seq (w_region ?_)
 refine qo 2 hK (s_box hK.at_ hS rfl rfl ?_)
 clear hK fr hS; intro m1 b1 b1z l1 hS fr hK
 refine qo 3 hK (s_box hK.at_ hS rfl rfl ?_)
 clear hK fr hS; intro m2 b2 b2z l2 hS fr hK
 replace hS : St _ m m2 [.box b2 #[.int .i64 a1.kind, .int .i64 a1.to, .int .i64 a1.from_, .int .i64 a1.len, .slice a1_data_a a1.data.length a1_data_c] 50, .box b1 #[.int .i64 a0.kind, .int .i64 a0.to, .int .i64 a0.from_, .int .i64 a0.len, .slice a0_data_a a0.data.length a0_data_c] 50] := hS
 refine qp 4 (.bool false) hK fun fr hK => ?_
 refine wpListIn_nil (then_n ?_)
 refine w_seq (w_region ?_)
 refine qp 5 (.pointer (some ⟨b1, 0, none⟩)) hK fun fr hK => ?_
 refine qo 6 hK (s_load hK.at_ hS 1 rfl rfl rfl rfl (by kernel_rfl) ?_)
 clear hK fr; intro fr hK
 refine qp 7 (.pointer (some ⟨b2, 0, none⟩)) hK fun fr hK => ?_
 refine qo 8 hK (s_load hK.at_ hS 0 rfl rfl rfl rfl (by kernel_rfl) ?_)
 clear hK fr; intro fr hK
 refine qp 9 (.bool (a0.kind == a1.kind)) hK fun fr hK => ?_
 refine qp 10 (.bool (a0.kind == a1.kind)) hK fun fr hK => ?_
 refine split_b (x := (a0.kind == a1.kind)) (fun hb1 => ?_) (fun hb1 => ?_)
 ·
  replace hK := hK.more (t := 10) (v' := .bool true) rfl (by rw [hb1])
  replace hK := hK.more (t := 9) (v' := .bool true) rfl (by rw [hb1])
  replace h := ite_t (eq_of_beq hb1) h
  refine qp 11 (.pointer (some ⟨b1, 1, none⟩)) hK fun fr hK => ?_
  refine qo 12 hK (s_load hK.at_ hS 1 rfl rfl rfl rfl (by kernel_rfl) ?_)
  clear hK fr; intro fr hK
  refine qp 13 (.pointer (some ⟨b2, 1, none⟩)) hK fun fr hK => ?_
  refine qo 14 hK (s_load hK.at_ hS 0 rfl rfl rfl rfl (by kernel_rfl) ?_)
  clear hK fr; intro fr hK
  refine qp 15 (.bool (a0.to == a1.to)) hK fun fr hK => ?_
  refine qp 16 (.bool (a0.to == a1.to)) hK fun fr hK => ?_
  refine qp 17 (.bool (a0.to == a1.to)) hK fun fr hK => ?_
  refine split_b (x := (a0.to == a1.to)) (fun hb2 => ?_) (fun hb2 => ?_)
  ·
   replace hK := hK.more (t := 17) (v' := .bool true) rfl (by rw [hb2])
   replace hK := hK.more (t := 16) (v' := .bool true) rfl (by rw [hb2])
   replace hK := hK.more (t := 15) (v' := .bool true) rfl (by rw [hb2])
   replace h := ite_t (eq_of_beq hb2) h
   refine qp 18 (.pointer (some ⟨b1, 2, none⟩)) hK fun fr hK => ?_
   refine qo 19 hK (s_load hK.at_ hS 1 rfl rfl rfl rfl (by kernel_rfl) ?_)
   clear hK fr; intro fr hK
   refine qp 20 (.pointer (some ⟨b2, 2, none⟩)) hK fun fr hK => ?_
   refine qo 21 hK (s_load hK.at_ hS 0 rfl rfl rfl rfl (by kernel_rfl) ?_)
   clear hK fr; intro fr hK
   refine qp 22 (.bool (a0.from_ == a1.from_)) hK fun fr hK => ?_
   refine qp 23 (.bool (a0.from_ == a1.from_)) hK fun fr hK => ?_
   refine qp 24 (.bool (a0.from_ == a1.from_)) hK fun fr hK => ?_
   refine split_b (x := (a0.from_ == a1.from_)) (fun hb3 => ?_) (fun hb3 => ?_)
   ·
    replace hK := hK.more (t := 24) (v' := .bool true) rfl (by rw [hb3])
    replace hK := hK.more (t := 23) (v' := .bool true) rfl (by rw [hb3])
    replace hK := hK.more (t := 22) (v' := .bool true) rfl (by rw [hb3])
    replace h := ite_t (eq_of_beq hb3) h
    refine qp 25 (.pointer (some ⟨b1, 3, none⟩)) hK fun fr hK => ?_
    refine qo 26 hK (s_load hK.at_ hS 1 rfl rfl rfl rfl (by kernel_rfl) ?_)
    clear hK fr; intro fr hK
    refine qp 27 (.pointer (some ⟨b2, 3, none⟩)) hK fun fr hK => ?_
    refine qo 28 hK (s_load hK.at_ hS 0 rfl rfl rfl rfl (by kernel_rfl) ?_)
    clear hK fr; intro fr hK
    refine qp 29 (.bool (a0.len == a1.len)) hK fun fr hK => ?_
    refine qp 30 (.bool (a0.len == a1.len)) hK fun fr hK => ?_
    refine qp 31 (.bool (a0.len == a1.len)) hK fun fr hK => ?_
    refine split_b (x := (a0.len == a1.len)) (fun hb4 => ?_) (fun hb4 => ?_)
    ·
     replace hK := hK.more (t := 31) (v' := .bool true) rfl (by rw [hb4])
     replace hK := hK.more (t := 30) (v' := .bool true) rfl (by rw [hb4])
     replace hK := hK.more (t := 29) (v' := .bool true) rfl (by rw [hb4])
     replace h := ite_t (eq_of_beq hb4) h
     refine qp 32 (.pointer (some ⟨b1, 4, none⟩)) hK fun fr hK => ?_
     refine qo 33 hK (s_load hK.at_ hS 1 rfl rfl rfl rfl (by kernel_rfl) ?_)
     clear hK fr; intro fr hK
     replace a0_data_f := Els.mono rep_U8 a0_data_f (l1.trans l2)
     refine qr 34 (.string (str a0.data)) hK (by exact run_toStr rfl rfl Try.underlying22 Try.underlying5 Try.underlying9 a0_data_f) ?_
     clear hK fr; intro fr hK
     refine qp 35 (.pointer (some ⟨b2, 4, none⟩)) hK fun fr hK => ?_
     refine qo 36 hK (s_load hK.at_ hS 0 rfl rfl rfl rfl (by kernel_rfl) ?_)
     clear hK fr; intro fr hK
     replace a1_data_f := Els.mono rep_U8 a1_data_f (l1.trans l2)
     refine qr 37 (.string (str a1.data)) hK (by exact run_toStr rfl rfl Try.underlying22 Try.underlying5 Try.underlying9 a1_data_f) ?_
     clear hK fr; intro fr hK
     refine qe 38 (.bool (decide (a0.data = a1.data))) (.bool ((str a0.data).toList == (str a1.data).toList)) hK (by exact v_bool (str_beq _ _)) ?_
     clear hK fr; intro fr hK
     refine qp 39 (.bool (decide (a0.data = a1.data))) hK fun fr hK => ?_
     refine qp 4 (.bool (decide (a0.data = a1.data))) hK fun fr hK => ?_
     refine wpListIn_nil (then_n ?_)
     refine wpIn_ret ?_
     replace h := Option.some.inj h; subst h
     refine ret_of [.tmp 4] [.bool (decide (a0.data = a1.data))] rfl hK (.tmp rfl .nil) hS.dropAll ?_
     exact ⟨rfl, rfl⟩
    ·
     replace hK := hK.more (t := 31) (v' := .bool false) rfl (by rw [hb4])
     replace hK := hK.more (t := 30) (v' := .bool false) rfl (by rw [hb4])
     replace hK := hK.more (t := 29) (v' := .bool false) rfl (by rw [hb4])
     replace h := ite_f (ne_of_beq_false hb4) h
     refine qs 32 hK ?_
     clear hK fr; intro fr hK
     refine qs 33 hK ?_
     clear hK fr; intro fr hK
     refine qs 34 hK ?_
     clear hK fr; intro fr hK
     refine qs 35 hK ?_
     clear hK fr; intro fr hK
     refine qs 36 hK ?_
     clear hK fr; intro fr hK
     refine qs 37 hK ?_
     clear hK fr; intro fr hK
     refine qs 38 hK ?_
     clear hK fr; intro fr hK
     refine qp 39 (.bool false) hK fun fr hK => ?_
     refine qp 4 (.bool false) hK fun fr hK => ?_
     refine wpListIn_nil (then_n ?_)
     refine wpIn_ret ?_
     replace h := Option.some.inj h; subst h
     refine ret_of [.tmp 4] [.bool false] rfl hK (.tmp rfl .nil) hS.dropAll ?_
     exact ⟨rfl, rfl⟩
   ·
    replace hK := hK.more (t := 24) (v' := .bool false) rfl (by rw [hb3])
    replace hK := hK.more (t := 23) (v' := .bool false) rfl (by rw [hb3])
    replace hK := hK.more (t := 22) (v' := .bool false) rfl (by rw [hb3])
    replace h := ite_f (ne_of_beq_false hb3) h
    refine qs 25 hK ?_
    clear hK fr; intro fr hK
    refine qs 26 hK ?_
    clear hK fr; intro fr hK
    refine qs 27 hK ?_
    clear hK fr; intro fr hK
    refine qs 28 hK ?_
    clear hK fr; intro fr hK
    refine qs 29 hK ?_
    clear hK fr; intro fr hK
    refine qp 30 (.bool false) hK fun fr hK => ?_
    refine qp 31 (.bool false) hK fun fr hK => ?_
    refine qs 32 hK ?_
    clear hK fr; intro fr hK
    refine qs 33 hK ?_
    clear hK fr; intro fr hK
    refine qs 34 hK ?_
    clear hK fr; intro fr hK
    refine qs 35 hK ?_
    clear hK fr; intro fr hK
    refine qs 36 hK ?_
    clear hK fr; intro fr hK
    refine qs 37 hK ?_
    clear hK fr; intro fr hK
    refine qs 38 hK ?_
    clear hK fr; intro fr hK
    refine qp 39 (.bool false) hK fun fr hK => ?_
    refine qp 4 (.bool false) hK fun fr hK => ?_
    refine wpListIn_nil (then_n ?_)
    refine wpIn_ret ?_
    replace h := Option.some.inj h; subst h
    refine ret_of [.tmp 4] [.bool false] rfl hK (.tmp rfl .nil) hS.dropAll ?_
    exact ⟨rfl, rfl⟩
  ·
   replace hK := hK.more (t := 17) (v' := .bool false) rfl (by rw [hb2])
   replace hK := hK.more (t := 16) (v' := .bool false) rfl (by rw [hb2])
   replace hK := hK.more (t := 15) (v' := .bool false) rfl (by rw [hb2])
   replace h := ite_f (ne_of_beq_false hb2) h
   refine qs 18 hK ?_
   clear hK fr; intro fr hK
   refine qs 19 hK ?_
   clear hK fr; intro fr hK
   refine qs 20 hK ?_
   clear hK fr; intro fr hK
   refine qs 21 hK ?_
   clear hK fr; intro fr hK
   refine qs 22 hK ?_
   clear hK fr; intro fr hK
   refine qp 23 (.bool false) hK fun fr hK => ?_
   refine qp 24 (.bool false) hK fun fr hK => ?_
   refine qs 25 hK ?_
   clear hK fr; intro fr hK
   refine qs 26 hK ?_
   clear hK fr; intro fr hK
   refine qs 27 hK ?_
   clear hK fr; intro fr hK
   refine qs 28 hK ?_
   clear hK fr; intro fr hK
   refine qs 29 hK ?_
   clear hK fr; intro fr hK
   refine qp 30 (.bool false) hK fun fr hK => ?_
   refine qp 31 (.bool false) hK fun fr hK => ?_
   refine qs 32 hK ?_
   clear hK fr; intro fr hK
   refine qs 33 hK ?_
   clear hK fr; intro fr hK
   refine qs 34 hK ?_
   clear hK fr; intro fr hK
   refine qs 35 hK ?_
   clear hK fr; intro fr hK
   refine qs 36 hK ?_
   clear hK fr; intro fr hK
   refine qs 37 hK ?_
   clear hK fr; intro fr hK
   refine qs 38 hK ?_
   clear hK fr; intro fr hK
   refine qp 39 (.bool false) hK fun fr hK => ?_
   refine qp 4 (.bool false) hK fun fr hK => ?_
   refine wpListIn_nil (then_n ?_)
   refine wpIn_ret ?_
   replace h := Option.some.inj h; subst h
   refine ret_of [.tmp 4] [.bool false] rfl hK (.tmp rfl .nil) hS.dropAll ?_
   exact ⟨rfl, rfl⟩
 ·
  replace hK := hK.more (t := 10) (v' := .bool false) rfl (by rw [hb1])
  replace hK := hK.more (t := 9) (v' := .bool false) rfl (by rw [hb1])
  replace h := ite_f (ne_of_beq_false hb1) h
  refine qs 11 hK ?_
  clear hK fr; intro fr hK
  refine qs 12 hK ?_
  clear hK fr; intro fr hK
  refine qs 13 hK ?_
  clear hK fr; intro fr hK
  refine qs 14 hK ?_
  clear hK fr; intro fr hK
  refine qs 15 hK ?_
  clear hK fr; intro fr hK
  refine qp 16 (.bool false) hK fun fr hK => ?_
  refine qp 17 (.bool false) hK fun fr hK => ?_
  refine qs 18 hK ?_
  clear hK fr; intro fr hK
  refine qs 19 hK ?_
  clear hK fr; intro fr hK
  refine qs 20 hK ?_
  clear hK fr; intro fr hK
  refine qs 21 hK ?_
  clear hK fr; intro fr hK
  refine qs 22 hK ?_
  clear hK fr; intro fr hK
  refine qp 23 (.bool false) hK fun fr hK => ?_
  refine qp 24 (.bool false) hK fun fr hK => ?_
  refine qs 25 hK ?_
  clear hK fr; intro fr hK
  refine qs 26 hK ?_
  clear hK fr; intro fr hK
  refine qs 27 hK ?_
  clear hK fr; intro fr hK
  refine qs 28 hK ?_
  clear hK fr; intro fr hK
  refine qs 29 hK ?_
  clear hK fr; intro fr hK
  refine qp 30 (.bool false) hK fun fr hK => ?_
  refine qp 31 (.bool false) hK fun fr hK => ?_
  refine qs 32 hK ?_
  clear hK fr; intro fr hK
  refine qs 33 hK ?_
  clear hK fr; intro fr hK
  refine qs 34 hK ?_
  clear hK fr; intro fr hK
  refine qs 35 hK ?_
  clear hK fr; intro fr hK
  refine qs 36 hK ?_
  clear hK fr; intro fr hK
  refine qs 37 hK ?_
  clear hK fr; intro fr hK
  refine qs 38 hK ?_
  clear hK fr; intro fr hK
  refine qp 39 (.bool false) hK fun fr hK => ?_
  refine qp 4 (.bool false) hK fun fr hK => ?_
  refine wpListIn_nil (then_n ?_)
  refine wpIn_ret ?_
  replace h := Option.some.inj h; subst h
  refine ret_of [.tmp 4] [.bool false] rfl hK (.tmp rfl .nil) hS.dropAll ?_
  exact ⟨rfl, rfl⟩
set_option maxRecDepth 100000 in
set_option maxHeartbeats 1000000 in
theorem G.graftref04_All_spec {m : Mem} {a0 : List G.Command} {a0_a : Option Addr} {a0_c : Nat} {a1 : List G.Command} {a1_a : Option Addr} {a1_c : Nat} (a0_f : Els is_G_Command m 5 a0_a a0_c a0) (a1_f : Els is_G_Command m 5 a1_a a1_c a1) {r : Bool} (h : G.graftref04_All a0 a1 = some r) :
  Spec Try.prog 36 #[.slice a0_a a0.length a0_c, .slice a1_a a1.length a1_c] m [] fun v m' L => L = [] ∧ v = .bool r := by
 unfold G.graftref04_All at h
 refine enter (args := [_, _]) 27 Try.func36 rfl rfl (by simp) fun fr hK => ?_
 have hS := St.refl (Ow.nil m)
 replace hK : Kn 27 fr [(0, .slice a0_a a0.length a0_c), (1, .slice a1_a a1.length a1_c)] := hK
 refine w_seq (w_region ?_)
 refine qp 4 (.bool false) hK fun fr hK => ?_
 refine wpListIn_nil (then_n ?_)
 refine w_seq ?_
 refine w_seq (w_region ?_)
 refine qp 6 (.slice a0_a a0.length a0_c) hK fun fr hK => ?_
 refine qp 7 (.int .i64 (a0.length : Int)) hK fun fr hK => ?_
 refine qp 8 (.slice a1_a a1.length a1_c) hK fun fr hK => ?_
 refine qp 9 (.int .i64 (a1.length : Int)) hK fun fr hK => ?_
 refine qp 10 (.bool ((a0.length : Int) != (a1.length : Int))) hK fun fr hK => ?_
 refine wpListIn_nil (then_n ?_)
 refine w_cond hK rfl (fun hb1 => ?_) (fun hb1 => ?_)
 ·
  replace hK := hK.more (t := 10) (v' := .bool true) rfl (by rw [hb1])
  replace h := ite_t (ne_of_bne hb1) h
  refine w_seq (w_region ?_)
  refine qp 4 (.bool false) hK fun fr hK => ?_
  refine wpListIn_nil (then_n ?_)
  refine wpIn_ret ?_
  refine then_r ?_
  replace h := Option.some.inj h; subst h
  refine ret_of [.tmp 4] [.bool false] rfl hK (.tmp rfl .nil) hS.dropAll ?_
  exact ⟨rfl, rfl⟩
 ·
  replace hK := hK.more (t := 10) (v' := .bool false) rfl (by rw [hb1])
  replace h := ite_f (not_not_intro (eq_of_bne hb1)) h
  refine wpIn_skip ?_
  refine then_n ?_
  refine w_seq ?_
  refine w_seq (w_region ?_)
  refine qp 5 (.int .i64 0) hK fun fr hK => ?_
  refine wpListIn_nil (then_n ?_)
  refine wpIn_block ?_
  refine w_loopL h (fun (s1 : Int) fr ww => ∃ m1 : Mem, m1.w = ww ∧ Kn 27 fr [(0, .slice a0_a a0.length a0_c), (1, .slice a1_a a1.length a1_c), (5, .int .i64 s1)] ∧ Le m m1 ∧ St (blocksOf []) m m1 []) ?_ ?_
  · exact ⟨m, rfl, hK.only [0, 1, 5], Le.refl _, hS⟩
  clear hK hS fr h
  rintro k1 s1 x1 fr _ ⟨m1, rfl, hK, l1, hS⟩ h hn1
  unfold G.graftref04_All_l1 at h
  refine w_seq ?_
  refine w_seq (w_region ?_)
  refine qp 11 (.int .i64 s1) hK fun fr hK => ?_
  refine qp 12 (.slice a0_a a0.length a0_c) hK fun fr hK => ?_
  refine qp 13 (.int .i64 (a0.length : Int)) hK fun fr hK => ?_
  refine qp 14 (.bool (decide (s1 < (a0.length : Int)))) hK fun fr hK => ?_
  refine wpListIn_nil (then_n ?_)
  refine w_cond hK rfl (fun hb2 => ?_) (fun hb2 => ?_)
  ·
   replace hK := hK.more (t := 14) (v' := .bool true) rfl (by rw [hb2])
   replace h := ite_t (of_decide_eq_true hb2) h
   refine wpIn_skip ?_
   refine then_n ?_
   refine w_seq ?_
   refine wpIn_block ?_
   refine w_seq ?_
   replace a0_f := Els.mono rep_G_Command a0_f l1
   replace a1_f := Els.mono rep_G_Command a1_f l1
   obtain ⟨x2, hy1, h⟩ := bind_some h
   obtain ⟨x3, hy2, h⟩ := bind_some h
   have hlt0 : ∀ bq ∈ blocksOf [], bq < m1.w.heap.size := fun bq hbq => hS.ow.lt hbq
   refine D.wp_draw (Gr := D.GO m1 none) (S := D.SO none (blocksOf []) m m1 (fun _ => []) (fun _ => True)) (N := 0) 8 [] [([(0, none)], 0, 0, false), ([(5, none)], 0, 0, false), ([(17, some 1), (18, some 0)], 0, 0, false), ([(19, some 0)], 0, 0, false), ([(1, none)], 0, 0, false), ([(5, none)], 0, 0, false), ([(21, some 1), (22, some 0)], 0, 0, false), ([(23, some 0)], 0, 0, false)] hK.size (by kernel_rfl) (by kernel_rfl) (by kernel_rfl) rfl (D.startO hS trivial) ?_
   refine D.on_pure (D.GO_refl _ _) [(0, .slice a0_a a0.length a0_c)] (.slice a0_a a0.length a0_c) (fun ac ww hk => (.cons (hk.1.trans (hK.at_ 0 _ rfl)) (.nil _))) ?_
   refine D.on_pure (D.GO_refl _ _) [(5, .int .i64 s1)] (.int .i64 s1) (fun ac ww hk => (.cons (hk.1.trans (hK.at_ 5 _ rfl)) (.nil _))) ?_
   refine D.on_op (fun uu ww => ∃ (b1 : Nat) (p1 : Nat) (e1_data_a : Option Addr) (e1_data_c : Nat), uu = .pointer (some ⟨b1, p1, none⟩) ∧ At (m1.upO none ww) b1 p1 [.int .i64 x2.kind, .int .i64 x2.to, .int .i64 x2.from_, .int .i64 x2.len, .slice e1_data_a x2.data.length e1_data_c] ∧ Els isU8 (m1.upO none ww) 1 e1_data_a e1_data_c x2.data) (fun _ _ _ ⟨b1, p1, e1_data_a, e1_data_c, e, hA1, e1_data_f⟩ g => ⟨b1, p1, e1_data_a, e1_data_c, e, hA1.mono g.1, Els.mono rep_U8 e1_data_f g.1⟩) (by
    intro ac ww kk hlo hhi hb hk
    obtain rfl : kk = 0 := by omega
    have h0 := hS; replace hS := hb.2.1
    have k17 : ac.eval (.tmp 17) = .slice a0_a a0.length a0_c := hk.1
    have k18 : ac.eval (.tmp 18) = .int .i64 s1 := hk.2.1
    have hKe : Ke ac [(17, .slice a0_a a0.length a0_c), (18, .int .i64 s1)] := (.cons k17 (.cons k18 (.nil _)))
    replace a0_f := Els.mono rep_G_Command a0_f hb.1
    exact ⟨D.wanted0 rfl, (s_idx elT25_5 a0_f hy1 hKe rfl rfl rfl (by
    intro b1 p1 cs1 hR1 hA1
    obtain ⟨e1_data_a, e1_data_c, rfl, e1_data_f⟩ := hR1
    exact ⟨⟨b1, p1, e1_data_a, e1_data_c, rfl, hA1, e1_data_f⟩, D.GO_refl _ _ _, hb⟩))⟩) ?_
   refine D.on_op (fun uu ww => ∃ (b1 : Nat) (p1 : Nat) (e1_data_a : Option Addr) (e1_data_c : Nat), uu = .agg #[.int .i64 x2.kind, .int .i64 x2.to, .int .i64 x2.from_, .int .i64 x2.len, .slice e1_data_a x2.data.length e1_data_c] ∧ At (m1.upO none ww) b1 p1 [.int .i64 x2.kind, .int .i64 x2.to, .int .i64 x2.from_, .int .i64 x2.len, .slice e1_data_a x2.data.length e1_data_c] ∧ Els isU8 (m1.upO none ww) 1 e1_data_a e1_data_c x2.data) (fun _ _ _ ⟨b1, p1, e1_data_a, e1_data_c, e, hA1, e1_data_f⟩ g => ⟨b1, p1, e1_data_a, e1_data_c, e, hA1.mono g.1, Els.mono rep_U8 e1_data_f g.1⟩) (by
    intro ac ww kk hlo hhi hb hk
    obtain rfl : kk = 0 := by omega
    have h0 := hS; replace hS := hb.2.1
    obtain ⟨b1, p1, e1_data_a, e1_data_c, k19, hA1, e1_data_f⟩ : ∃ (b1 : Nat) (p1 : Nat) (e1_data_a : Option Addr) (e1_data_c : Nat), ac.eval (.tmp 19) = .pointer (some ⟨b1, p1, none⟩) ∧ At (m1.upO none ww) b1 p1 [.int .i64 x2.kind, .int .i64 x2.to, .int .i64 x2.from_, .int .i64 x2.len, .slice e1_data_a x2.data.length e1_data_c] ∧ Els isU8 (m1.upO none ww) 1 e1_data_a e1_data_c x2.data := hk.1
    have hKe : Ke ac [(19, .pointer (some ⟨b1, p1, none⟩))] := (.cons k19 (.nil _))
    exact ⟨D.wanted0 rfl, D.valO (m := m1) hb (fun Post hp => s_loadAtN [.int .i64 x2.kind, .int .i64 x2.to, .int .i64 x2.from_, .int .i64 x2.len, .slice e1_data_a x2.data.length e1_data_c] hKe hA1 0 rfl rfl rfl (by kernel_rfl) (by kernel_rfl) hp) ⟨b1, p1, e1_data_a, e1_data_c, rfl, hA1, e1_data_f⟩⟩) ?_
   refine D.on_pure (D.GO_refl _ _) [(1, .slice a1_a a1.length a1_c)] (.slice a1_a a1.length a1_c) (fun ac ww hk => (.cons (hk.1.trans (hK.at_ 1 _ rfl)) (.nil _))) ?_
   refine D.on_pure (D.GO_refl _ _) [(5, .int .i64 s1)] (.int .i64 s1) (fun ac ww hk => (.cons (hk.1.trans (hK.at_ 5 _ rfl)) (.nil _))) ?_
   refine D.on_op (fun uu ww => ∃ (b2 : Nat) (p2 : Nat) (e2_data_a : Option Addr) (e2_data_c : Nat), uu = .pointer (some ⟨b2, p2, none⟩) ∧ At (m1.upO none ww) b2 p2 [.int .i64 x3.kind, .int .i64 x3.to, .int .i64 x3.from_, .int .i64 x3.len, .slice e2_data_a x3.data.length e2_data_c] ∧ Els isU8 (m1.upO none ww) 1 e2_data_a e2_data_c x3.data) (fun _ _ _ ⟨b2, p2, e2_data_a, e2_data_c, e, hA2, e2_data_f⟩ g => ⟨b2, p2, e2_data_a, e2_data_c, e, hA2.mono g.1, Els.mono rep_U8 e2_data_f g.1⟩) (by
    intro ac ww kk hlo hhi hb hk
    obtain rfl : kk = 0 := by omega
    have h0 := hS; replace hS := hb.2.1
    have k21 : ac.eval (.tmp 21) = .slice a1_a a1.length a1_c := hk.1
    have k22 : ac.eval (.tmp 22) = .int .i64 s1 := hk.2.1
    have hKe : Ke ac [(21, .slice a1_a a1.length a1_c), (22, .int .i64 s1)] := (.cons k21 (.cons k22 (.nil _)))
    replace a1_f := Els.mono rep_G_Command a1_f hb.1
    exact ⟨D.wanted0 rfl, (s_idx elT25_5 a1_f hy2 hKe rfl rfl rfl (by
    intro b2 p2 cs2 hR2 hA2
    obtain ⟨e2_data_a, e2_data_c, rfl, e2_data_f⟩ := hR2
    exact ⟨⟨b2, p2, e2_data_a, e2_data_c, rfl, hA2, e2_data_f⟩, D.GO_refl _ _ _, hb⟩))⟩) ?_
   refine D.on_op (fun uu ww => ∃ (b2 : Nat) (p2 : Nat) (e2_data_a : Option Addr) (e2_data_c : Nat), uu = .agg #[.int .i64 x3.kind, .int .i64 x3.to, .int .i64 x3.from_, .int .i64 x3.len, .slice e2_data_a x3.data.length e2_data_c] ∧ At (m1.upO none ww) b2 p2 [.int .i64 x3.kind, .int .i64 x3.to, .int .i64 x3.from_, .int .i64 x3.len, .slice e2_data_a x3.data.length e2_data_c] ∧ Els isU8 (m1.upO none ww) 1 e2_data_a e2_data_c x3.data) (fun _ _ _ ⟨b2, p2, e2_data_a, e2_data_c, e, hA2, e2_data_f⟩ g => ⟨b2, p2, e2_data_a, e2_data_c, e, hA2.mono g.1, Els.mono rep_U8 e2_data_f g.1⟩) (by
    intro ac ww kk hlo hhi hb hk
    obtain rfl : kk = 0 := by omega
    have h0 := hS; replace hS := hb.2.1
    obtain ⟨b2, p2, e2_data_a, e2_data_c, k23, hA2, e2_data_f⟩ : ∃ (b2 : Nat) (p2 : Nat) (e2_data_a : Option Addr) (e2_data_c : Nat), ac.eval (.tmp 23) = .pointer (some ⟨b2, p2, none⟩) ∧ At (m1.upO none ww) b2 p2 [.int .i64 x3.kind, .int .i64 x3.to, .int .i64 x3.from_, .int .i64 x3.len, .slice e2_data_a x3.data.length e2_data_c] ∧ Els isU8 (m1.upO none ww) 1 e2_data_a e2_data_c x3.data := hk.1
    have hKe : Ke ac [(23, .pointer (some ⟨b2, p2, none⟩))] := (.cons k23 (.nil _))
    exact ⟨D.wanted0 rfl, D.valO (m := m1) hb (fun Post hp => s_loadAtN [.int .i64 x3.kind, .int .i64 x3.to, .int .i64 x3.from_, .int .i64 x3.len, .slice e2_data_a x3.data.length e2_data_c] hKe hA2 0 rfl rfl rfl (by kernel_rfl) (by kernel_rfl) hp) ⟨b2, p2, e2_data_a, e2_data_c, rfl, hA2, e2_data_f⟩⟩) ?_
   refine D.finO ?_
   intro fr2 m2 hm1 l2 hS2 hF2 hE
   replace hS2 : St _ m m2 [] := hS2
   obtain ⟨b1, p1, e1_data_a, e1_data_c, k20, hA1, e1_data_f⟩ : ∃ (b1 : Nat) (p1 : Nat) (e1_data_a : Option Addr) (e1_data_c : Nat), fr2.eval (.tmp 20) = .agg #[.int .i64 x2.kind, .int .i64 x2.to, .int .i64 x2.from_, .int .i64 x2.len, .slice e1_data_a x2.data.length e1_data_c] ∧ At (m1.upO none m2.w) b1 p1 [.int .i64 x2.kind, .int .i64 x2.to, .int .i64 x2.from_, .int .i64 x2.len, .slice e1_data_a x2.data.length e1_data_c] ∧ Els isU8 (m1.upO none m2.w) 1 e1_data_a e1_data_c x2.data := hE.slots 20
   rw [hm1] at hA1
   rw [hm1] at e1_data_f
   obtain ⟨b2, p2, e2_data_a, e2_data_c, k24, hA2, e2_data_f⟩ : ∃ (b2 : Nat) (p2 : Nat) (e2_data_a : Option Addr) (e2_data_c : Nat), fr2.eval (.tmp 24) = .agg #[.int .i64 x3.kind, .int .i64 x3.to, .int .i64 x3.from_, .int .i64 x3.len, .slice e2_data_a x3.data.length e2_data_c] ∧ At (m1.upO none m2.w) b2 p2 [.int .i64 x3.kind, .int .i64 x3.to, .int .i64 x3.from_, .int .i64 x3.len, .slice e2_data_a x3.data.length e2_data_c] ∧ Els isU8 (m1.upO none m2.w) 1 e2_data_a e2_data_c x3.data := hE.slots 24
   rw [hm1] at hA2
   rw [hm1] at e2_data_f
   have hK2 := D.kn_ends [(17, .slice a0_a a0.length a0_c), (18, .int .i64 s1), (19, fr2.eval (.tmp 19)), (20, .agg #[.int .i64 x2.kind, .int .i64 x2.to, .int .i64 x2.from_, .int .i64 x2.len, .slice e1_data_a x2.data.length e1_data_c]), (21, .slice a1_a a1.length a1_c), (22, .int .i64 s1), (23, fr2.eval (.tmp 23)), (24, .agg #[.int .i64 x3.kind, .int .i64 x3.to, .int .i64 x3.from_, .int .i64 x3.len, .slice e2_data_a x3.data.length e2_data_c])] hK hE rfl (by kernel_rfl) (.cons (hE.slots 17) (.cons (hE.slots 18) (.cons (rfl) (.cons (k20) (.cons (hE.slots 21) (.cons (hE.slots 22) (.cons (rfl) (.cons (k24) (.nil _)))))))))
   replace hK2 : Kn 27 fr2 [(17, .slice a0_a a0.length a0_c), (18, .int .i64 s1), (20, .agg #[.int .i64 x2.kind, .int .i64 x2.to, .int .i64 x2.from_, .int .i64 x2.len, .slice e1_data_a x2.data.length e1_data_c]), (21, .slice a1_a a1.length a1_c), (22, .int .i64 s1), (24, .agg #[.int .i64 x3.kind, .int .i64 x3.to, .int .i64 x3.from_, .int .i64 x3.len, .slice e2_data_a x3.data.length e2_data_c]), (14, .bool true), (13, .int .i64 (a0.length : Int)), (12, .slice a0_a a0.length a0_c), (11, .int .i64 s1), (0, .slice a0_a a0.length a0_c), (1, .slice a1_a a1.length a1_c), (5, .int .i64 s1)] := hK2.only [17, 18, 20, 21, 22, 24, 14, 13, 12, 11, 0, 1, 5]
   clear hE hK k20 k24; revert hK2; clear hm1 hS hlt0; revert fr2; clear fr; intro fr hK; have hS := hS2; clear hS2
   replace hS : St _ m m2 [] := hS
   obtain ⟨y1, hy3, h⟩ := bind_some h
   refine qo 25 hK (s_call hK.at_ hS ent74_5 rfl rfl rfl rfl (G.graftref04_Same_spec e1_data_f e2_data_f hy3) (by kernel_rfl) ?_)
   clear hK fr hS; rintro _ m3 _ l3 hS ⟨rfl, rfl⟩ fr hK
   replace hS : St _ m m3 [] := hS
   refine qp 26 (.bool (!y1)) hK fun fr hK => ?_
   refine wpListIn_nil (then_n ?_)
   refine w_cond hK rfl (fun hb3 => ?_) (fun hb3 => ?_)
   ·
    replace hK := hK.more (t := 26) (v' := .bool true) rfl (by rw [hb3])
    replace h := ite_t ((Bool.not_eq_true' _).mp hb3) h
    refine w_seq (w_region ?_)
    refine qp 4 (.bool false) hK fun fr hK => ?_
    refine wpListIn_nil (then_n ?_)
    refine wpIn_ret ?_
    refine blk_r ?_
    refine then_r ?_
    refine then_r ?_
    refine blk_r ?_
    refine then_r ?_
    replace h := Option.some.inj h; subst h
    replace h := Option.some.inj (loop_out hn1); subst h
    refine ret_of [.tmp 4] [.bool false] rfl hK (.tmp rfl .nil) hS.dropAll ?_
    exact ⟨rfl, rfl⟩
   ·
    replace hK := hK.more (t := 26) (v' := .bool false) rfl (by rw [hb3])
    replace h := ite_f (not_false_of ((Bool.not_eq_false' _).mp hb3)) h
    refine wpIn_skip ?_
    refine blk_n ?_
    refine then_n ?_
    refine w_region ?_
    refine qp 15 (.int .i64 s1) hK fun fr hK => ?_
    refine qp 16 (.int .i64 (IntKind.i64.wrap (s1 + 1))) hK fun fr hK => ?_
    refine qp 5 (.int .i64 (IntKind.i64.wrap (s1 + 1))) hK fun fr hK => ?_
    refine wpListIn_nil (then_n ?_)
    replace h := Option.some.inj h; subst h
    obtain ⟨kq, hk1, hk2⟩ := hn1
    exact ⟨kq, hk1, _, hk2, m3, rfl, hK.only [0, 1, 5], l1.trans (l2.trans l3), hS⟩
  ·
   replace hK := hK.more (t := 14) (v' := .bool false) rfl (by rw [hb2])
   replace h := ite_f (of_decide_eq_false hb2) h
   refine wpIn_exit ?_
   refine then_x ?_
   refine then_x ?_
   refine blk_e ?_
   refine then_n ?_
   refine w_seq (w_region ?_)
   refine qp 4 (.bool true) hK fun fr hK => ?_
   refine wpListIn_nil (then_n ?_)
   refine wpIn_ret ?_
   replace h := Option.some.inj h; subst h
   replace h := Option.some.inj (loop_out hn1); subst h
   refine ret_of [.tmp 4] [.bool true] rfl hK (.tmp rfl .nil) hS.dropAll ?_
   exact ⟨rfl, rfl⟩
set_option maxRecDepth 100000 in
set_option maxHeartbeats 1000000 in
theorem G.graftref05_Same_spec {m : Mem} {a0 : G.Delta} {a0_commands_a : Option Addr} {a0_commands_c : Nat} {a1 : G.Delta} {a1_commands_a : Option Addr} {a1_commands_c : Nat} (a0_commands_f : Els is_G_Command m 5 a0_commands_a a0_commands_c a0.commands) (a1_commands_f : Els is_G_Command m 5 a1_commands_a a1_commands_c a1.commands) {r : Bool} (h : G.graftref05_Same a0 a1 = some r) :
  Spec Try.prog 16 #[.agg (G_Delta_cells a0 a0_commands_a a0_commands_c), .agg (G_Delta_cells a1 a1_commands_a a1_commands_c)] m [] fun v m' L => L = [] ∧ v = .bool r := by
 unfold G.graftref05_Same at h
 refine enter (args := [_, _]) 38 Try.func16 rfl rfl (by simp) fun fr hK => ?_
 have hS := St.refl (Ow.nil m)
 replace hK : Kn 38 fr [(0, .agg (G_Delta_cells a0 a0_commands_a a0_commands_c)), (1, .agg (G_Delta_cells a1 a1_commands_a a1_commands_c))] := hK
 refine w_seq (w_region ?_)
 refine qo 2 hK (s_box hK.at_ hS rfl rfl ?_)
 clear hK fr hS; intro m1 b1 b1z l1 hS fr hK
 refine qo 3 hK (s_box hK.at_ hS rfl rfl ?_)
 clear hK fr hS; intro m2 b2 b2z l2 hS fr hK
 replace hS : St _ m m2 [.box b2 (G_Delta_cells a1 a1_commands_a a1_commands_c) 27, .box b1 (G_Delta_cells a0 a0_commands_a a0_commands_c) 27] := hS
 refine qp 4 (.bool false) hK fun fr hK => ?_
 refine wpListIn_nil (then_n ?_)
 refine w_seq (w_region ?_)
 refine qp 5 (.pointer (some ⟨b1, 0, none⟩)) hK fun fr hK => ?_
 refine qo 6 hK (s_load hK.at_ hS 1 rfl rfl rfl rfl (by kernel_rfl) ?_)
 clear hK fr; intro fr hK
 refine qp 7 (.pointer (some ⟨b2, 0, none⟩)) hK fun fr hK => ?_
 refine qo 8 hK (s_load hK.at_ hS 0 rfl rfl rfl rfl (by kernel_rfl) ?_)
 clear hK fr; intro fr hK
 refine qp 9 (.bool (a0.oldLen == a1.oldLen)) hK fun fr hK => ?_
 refine qp 10 (.bool (a0.oldLen == a1.oldLen)) hK fun fr hK => ?_
 refine split_b (x := (a0.oldLen == a1.oldLen)) (fun hb1 => ?_) (fun hb1 => ?_)
 ·
  replace hK := hK.more (t := 10) (v' := .bool true) rfl (by rw [hb1])
  replace hK := hK.more (t := 9) (v' := .bool true) rfl (by rw [hb1])
  replace h := ite_t (eq_of_beq hb1) h
  refine qp 11 (.pointer (some ⟨b1, 1, none⟩)) hK fun fr hK => ?_
  refine qo 12 hK (s_load hK.at_ hS 1 rfl rfl rfl rfl (by kernel_rfl) ?_)
  clear hK fr; intro fr hK
  refine qp 13 (.pointer (some ⟨b2, 1, none⟩)) hK fun fr hK => ?_
  refine qo 14 hK (s_load hK.at_ hS 0 rfl rfl rfl rfl (by kernel_rfl) ?_)
  clear hK fr; intro fr hK
  refine qp 15 (.bool (a0.newLen == a1.newLen)) hK fun fr hK => ?_
  refine qp 16 (.bool (a0.newLen == a1.newLen)) hK fun fr hK => ?_
  refine qp 17 (.bool (a0.newLen == a1.newLen)) hK fun fr hK => ?_
  refine split_b (x := (a0.newLen == a1.newLen)) (fun hb2 => ?_) (fun hb2 => ?_)
  ·
   replace hK := hK.more (t := 17) (v' := .bool true) rfl (by rw [hb2])
   replace hK := hK.more (t := 16) (v' := .bool true) rfl (by rw [hb2])
   replace hK := hK.more (t := 15) (v' := .bool true) rfl (by rw [hb2])
   replace h := ite_t (eq_of_beq hb2) h
   refine qp 18 (.pointer (some ⟨b1, 2, none⟩)) hK fun fr hK => ?_
   refine qo 19 hK (s_loadN [.int .u8 ((a0.oldHash 0).toNat : Int), .int .u8 ((a0.oldHash 1).toNat : Int), .int .u8 ((a0.oldHash 2).toNat : Int), .int .u8 ((a0.oldHash 3).toNat : Int), .int .u8 ((a0.oldHash 4).toNat : Int), .int .u8 ((a0.oldHash 5).toNat : Int), .int .u8 ((a0.oldHash 6).toNat : Int), .int .u8 ((a0.oldHash 7).toNat : Int), .int .u8 ((a0.oldHash 8).toNat : Int), .int .u8 ((a0.oldHash 9).toNat : Int), .int .u8 ((a0.oldHash 10).toNat : Int), .int .u8 ((a0.oldHash 11).toNat : Int), .int .u8 ((a0.oldHash 12).toNat : Int), .int .u8 ((a0.oldHash 13).toNat : Int), .int .u8 ((a0.oldHash 14).toNat : Int), .int .u8 ((a0.oldHash 15).toNat : Int), .int .u8 ((a0.oldHash 16).toNat : Int), .int .u8 ((a0.oldHash 17).toNat : Int), .int .u8 ((a0.oldHash 18).toNat : Int), .int .u8 ((a0.oldHash 19).toNat : Int), .int .u8 ((a0.oldHash 20).toNat : Int), .int .u8 ((a0.oldHash 21).toNat : Int), .int .u8 ((a0.oldHash 22).toNat : Int), .int .u8 ((a0.oldHash 23).toNat : Int), .int .u8 ((a0.oldHash 24).toNat : Int), .int .u8 ((a0.oldHash 25).toNat : Int), .int .u8 ((a0.oldHash 26).toNat : Int), .int .u8 ((a0.oldHash 27).toNat : Int), .int .u8 ((a0.oldHash 28).toNat : Int), .int .u8 ((a0.oldHash 29).toNat : Int), .int .u8 ((a0.oldHash 30).toNat : Int), .int .u8 ((a0.oldHash 31).toNat : Int)] hK.at_ hS 1 rfl rfl rfl (by kernel_rfl) (by kernel_rfl) ?_)
   clear hK fr; intro fr hK
   refine qp 20 (.pointer (some ⟨b2, 2, none⟩)) hK fun fr hK => ?_
   refine qo 21 hK (s_loadN [.int .u8 ((a1.oldHash 0).toNat : Int), .int .u8 ((a1.oldHash 1).toNat : Int), .int .u8 ((a1.oldHash 2).toNat : Int), .int .u8 ((a1.oldHash 3).toNat : Int), .int .u8 ((a1.oldHash 4).toNat : Int), .int .u8 ((a1.oldHash 5).toNat : Int), .int .u8 ((a1.oldHash 6).toNat : Int), .int .u8 ((a1.oldHash 7).toNat : Int), .int .u8 ((a1.oldHash 8).toNat : Int), .int .u8 ((a1.oldHash 9).toNat : Int), .int .u8 ((a1.oldHash 10).toNat : Int), .int .u8 ((a1.oldHash 11).toNat : Int), .int .u8 ((a1.oldHash 12).toNat : Int), .int .u8 ((a1.oldHash 13).toNat : Int), .int .u8 ((a1.oldHash 14).toNat : Int), .int .u8 ((a1.oldHash 15).toNat : Int), .int .u8 ((a1.oldHash 16).toNat : Int), .int .u8 ((a1.oldHash 17).toNat : Int), .int .u8 ((a1.oldHash 18).toNat : Int), .int .u8 ((a1.oldHash 19).toNat : Int), .int .u8 ((a1.oldHash 20).toNat : Int), .int .u8 ((a1.oldHash 21).toNat : Int), .int .u8 ((a1.oldHash 22).toNat : Int), .int .u8 ((a1.oldHash 23).toNat : Int), .int .u8 ((a1.oldHash 24).toNat : Int), .int .u8 ((a1.oldHash 25).toNat : Int), .int .u8 ((a1.oldHash 26).toNat : Int), .int .u8 ((a1.oldHash 27).toNat : Int), .int .u8 ((a1.oldHash 28).toNat : Int), .int .u8 ((a1.oldHash 29).toNat : Int), .int .u8 ((a1.oldHash 30).toNat : Int), .int .u8 ((a1.oldHash 31).toNat : Int)] hK.at_ hS 0 rfl rfl rfl (by kernel_rfl) (by kernel_rfl) ?_)
   clear hK fr; intro fr hK
   refine qr 22 (.bool (hashEq a0.oldHash a1.oldHash)) hK (by exact run_binAgg rfl rfl rfl (by kernel_rfl) (eqH24_5 a0.oldHash a1.oldHash _)) ?_
   clear hK fr; intro fr hK
   refine qp 23 (.bool (hashEq a0.oldHash a1.oldHash)) hK fun fr hK => ?_
   refine qp 24 (.bool (hashEq a0.oldHash a1.oldHash)) hK fun fr hK => ?_
   refine split_b (x := (hashEq a0.oldHash a1.oldHash)) (fun hb3 => ?_) (fun hb3 => ?_)
   ·
    replace hK := hK.more (t := 24) (v' := .bool true) rfl (by rw [hb3])
    replace hK := hK.more (t := 23) (v' := .bool true) rfl (by rw [hb3])
    replace hK := hK.more (t := 22) (v' := .bool true) rfl (by rw [hb3])
    replace h := ite_t (hb3) h
    refine qp 25 (.pointer (some ⟨b1, 34, none⟩)) hK fun fr hK => ?_
    refine qo 26 hK (s_loadN [.int .u8 ((a0.newHash 0).toNat : Int), .int .u8 ((a0.newHash 1).toNat : Int), .int .u8 ((a0.newHash 2).toNat : Int), .int .u8 ((a0.newHash 3).toNat : Int), .int .u8 ((a0.newHash 4).toNat : Int), .int .u8 ((a0.newHash 5).toNat : Int), .int .u8 ((a0.newHash 6).toNat : Int), .int .u8 ((a0.newHash 7).toNat : Int), .int .u8 ((a0.newHash 8).toNat : Int), .int .u8 ((a0.newHash 9).toNat : Int), .int .u8 ((a0.newHash 10).toNat : Int), .int .u8 ((a0.newHash 11).toNat : Int), .int .u8 ((a0.newHash 12).toNat : Int), .int .u8 ((a0.newHash 13).toNat : Int), .int .u8 ((a0.newHash 14).toNat : Int), .int .u8 ((a0.newHash 15).toNat : Int), .int .u8 ((a0.newHash 16).toNat : Int), .int .u8 ((a0.newHash 17).toNat : Int), .int .u8 ((a0.newHash 18).toNat : Int), .int .u8 ((a0.newHash 19).toNat : Int), .int .u8 ((a0.newHash 20).toNat : Int), .int .u8 ((a0.newHash 21).toNat : Int), .int .u8 ((a0.newHash 22).toNat : Int), .int .u8 ((a0.newHash 23).toNat : Int), .int .u8 ((a0.newHash 24).toNat : Int), .int .u8 ((a0.newHash 25).toNat : Int), .int .u8 ((a0.newHash 26).toNat : Int), .int .u8 ((a0.newHash 27).toNat : Int), .int .u8 ((a0.newHash 28).toNat : Int), .int .u8 ((a0.newHash 29).toNat : Int), .int .u8 ((a0.newHash 30).toNat : Int), .int .u8 ((a0.newHash 31).toNat : Int)] hK.at_ hS 1 rfl rfl rfl (by kernel_rfl) (by kernel_rfl) ?_)
    clear hK fr; intro fr hK
    refine qp 27 (.pointer (some ⟨b2, 34, none⟩)) hK fun fr hK => ?_
    refine qo 28 hK (s_loadN [.int .u8 ((a1.newHash 0).toNat : Int), .int .u8 ((a1.newHash 1).toNat : Int), .int .u8 ((a1.newHash 2).toNat : Int), .int .u8 ((a1.newHash 3).toNat : Int), .int .u8 ((a1.newHash 4).toNat : Int), .int .u8 ((a1.newHash 5).toNat : Int), .int .u8 ((a1.newHash 6).toNat : Int), .int .u8 ((a1.newHash 7).toNat : Int), .int .u8 ((a1.newHash 8).toNat : Int), .int .u8 ((a1.newHash 9).toNat : Int), .int .u8 ((a1.newHash 10).toNat : Int), .int .u8 ((a1.newHash 11).toNat : Int), .int .u8 ((a1.newHash 12).toNat : Int), .int .u8 ((a1.newHash 13).toNat : Int), .int .u8 ((a1.newHash 14).toNat : Int), .int .u8 ((a1.newHash 15).toNat : Int), .int .u8 ((a1.newHash 16).toNat : Int), .int .u8 ((a1.newHash 17).toNat : Int), .int .u8 ((a1.newHash 18).toNat : Int), .int .u8 ((a1.newHash 19).toNat : Int), .int .u8 ((a1.newHash 20).toNat : Int), .int .u8 ((a1.newHash 21).toNat : Int), .int .u8 ((a1.newHash 22).toNat : Int), .int .u8 ((a1.newHash 23).toNat : Int), .int .u8 ((a1.newHash 24).toNat : Int), .int .u8 ((a1.newHash 25).toNat : Int), .int .u8 ((a1.newHash 26).toNat : Int), .int .u8 ((a1.newHash 27).toNat : Int), .int .u8 ((a1.newHash 28).toNat : Int), .int .u8 ((a1.newHash 29).toNat : Int), .int .u8 ((a1.newHash 30).toNat : Int), .int .u8 ((a1.newHash 31).toNat : Int)] hK.at_ hS 0 rfl rfl rfl (by kernel_rfl) (by kernel_rfl) ?_)
    clear hK fr; intro fr hK
    refine qr 29 (.bool (hashEq a0.newHash a1.newHash)) hK (by exact run_binAgg rfl rfl rfl (by kernel_rfl) (eqH24_5 a0.newHash a1.newHash _)) ?_
    clear hK fr; intro fr hK
    refine qp 30 (.bool (hashEq a0.newHash a1.newHash)) hK fun fr hK => ?_
    refine qp 31 (.bool (hashEq a0.newHash a1.newHash)) hK fun fr hK => ?_
    refine split_b (x := (hashEq a0.newHash a1.newHash)) (fun hb4 => ?_) (fun hb4 => ?_)
    ·
     replace hK := hK.more (t := 31) (v' := .bool true) rfl (by rw [hb4])
     replace hK := hK.more (t := 30) (v' := .bool true) rfl (by rw [hb4])
     replace hK := hK.more (t := 29) (v' := .bool true) rfl (by rw [hb4])
     replace h := ite_t (hb4) h
     refine qp 32 (.pointer (some ⟨b1, 66, none⟩)) hK fun fr hK => ?_
     refine qo 33 hK (s_load hK.at_ hS 1 rfl rfl rfl rfl (by kernel_rfl) ?_)
     clear hK fr; intro fr hK
     refine qp 34 (.pointer (some ⟨b2, 66, none⟩)) hK fun fr hK => ?_
     refine qo 35 hK (s_load hK.at_ hS 0 rfl rfl rfl rfl (by kernel_rfl) ?_)
     clear hK fr; intro fr hK
     replace a0_commands_f := Els.mono rep_G_Command a0_commands_f (l1.trans l2)
     replace a1_commands_f := Els.mono rep_G_Command a1_commands_f (l1.trans l2)
     obtain ⟨y1, hy1, h⟩ := bind_some h
     refine qo 36 hK (s_call hK.at_ hS ent36_5 rfl rfl rfl rfl (G.graftref04_All_spec a0_commands_f a1_commands_f hy1) (by kernel_rfl) ?_)
     clear hK fr hS; rintro _ m3 _ l3 hS ⟨rfl, rfl⟩ fr hK
     replace hS : St _ m m3 [.box b2 (G_Delta_cells a1 a1_commands_a a1_commands_c) 27, .box b1 (G_Delta_cells a0 a0_commands_a a0_commands_c) 27] := hS
     refine qp 37 (.bool y1) hK fun fr hK => ?_
     refine qp 4 (.bool y1) hK fun fr hK => ?_
     refine wpListIn_nil (then_n ?_)
     refine wpIn_ret ?_
     replace h := Option.some.inj h; subst h
     refine ret_of [.tmp 4] [.bool y1] rfl hK (.tmp rfl .nil) hS.dropAll ?_
     exact ⟨rfl, rfl⟩
    ·
     replace hK := hK.more (t := 31) (v' := .bool false) rfl (by rw [hb4])
     replace hK := hK.more (t := 30) (v' := .bool false) rfl (by rw [hb4])
     replace hK := hK.more (t := 29) (v' := .bool false) rfl (by rw [hb4])
     replace h := ite_f (ne_true_of_eq_false hb4) h
     refine qs 32 hK ?_
     clear hK fr; intro fr hK
     refine qs 33 hK ?_
     clear hK fr; intro fr hK
     refine qs 34 hK ?_
     clear hK fr; intro fr hK
     refine qs 35 hK ?_
     clear hK fr; intro fr hK
     refine qs 36 hK ?_
     clear hK fr; intro fr hK
     refine qp 37 (.bool false) hK fun fr hK => ?_
     refine qp 4 (.bool false) hK fun fr hK => ?_
     refine wpListIn_nil (then_n ?_)
     refine wpIn_ret ?_
     replace h := Option.some.inj h; subst h
     refine ret_of [.tmp 4] [.bool false] rfl hK (.tmp rfl .nil) hS.dropAll ?_
     exact ⟨rfl, rfl⟩
   ·
    replace hK := hK.more (t := 24) (v' := .bool false) rfl (by rw [hb3])
    replace hK := hK.more (t := 23) (v' := .bool false) rfl (by rw [hb3])
    replace hK := hK.more (t := 22) (v' := .bool false) rfl (by rw [hb3])
    replace h := ite_f (ne_true_of_eq_false hb3) h
    refine qs 25 hK ?_
    clear hK fr; intro fr hK
    refine qs 26 hK ?_
    clear hK fr; intro fr hK
    refine qs 27 hK ?_
    clear hK fr; intro fr hK
    refine qs 28 hK ?_
    clear hK fr; intro fr hK
    refine qs 29 hK ?_
    clear hK fr; intro fr hK
    refine qp 30 (.bool false) hK fun fr hK => ?_
    refine qp 31 (.bool false) hK fun fr hK => ?_
    refine qs 32 hK ?_
    clear hK fr; intro fr hK
    refine qs 33 hK ?_
    clear hK fr; intro fr hK
    refine qs 34 hK ?_
    clear hK fr; intro fr hK
    refine qs 35 hK ?_
    clear hK fr; intro fr hK
    refine qs 36 hK ?_
    clear hK fr; intro fr hK
    refine qp 37 (.bool false) hK fun fr hK => ?_
    refine qp 4 (.bool false) hK fun fr hK => ?_
    refine wpListIn_nil (then_n ?_)
    refine wpIn_ret ?_
    replace h := Option.some.inj h; subst h
    refine ret_of [.tmp 4] [.bool false] rfl hK (.tmp rfl .nil) hS.dropAll ?_
    exact ⟨rfl, rfl⟩
  ·
   replace hK := hK.more (t := 17) (v' := .bool false) rfl (by rw [hb2])
   replace hK := hK.more (t := 16) (v' := .bool false) rfl (by rw [hb2])
   replace hK := hK.more (t := 15) (v' := .bool false) rfl (by rw [hb2])
   replace h := ite_f (ne_of_beq_false hb2) h
   refine qs 18 hK ?_
   clear hK fr; intro fr hK
   refine qs 19 hK ?_
   clear hK fr; intro fr hK
   refine qs 20 hK ?_
   clear hK fr; intro fr hK
   refine qs 21 hK ?_
   clear hK fr; intro fr hK
   refine qs 22 hK ?_
   clear hK fr; intro fr hK
   refine qp 23 (.bool false) hK fun fr hK => ?_
   refine qp 24 (.bool false) hK fun fr hK => ?_
   refine qs 25 hK ?_
   clear hK fr; intro fr hK
   refine qs 26 hK ?_
   clear hK fr; intro fr hK
   refine qs 27 hK ?_
   clear hK fr; intro fr hK
   refine qs 28 hK ?_
   clear hK fr; intro fr hK
   refine qs 29 hK ?_
   clear hK fr; intro fr hK
   refine qp 30 (.bool false) hK fun fr hK => ?_
   refine qp 31 (.bool false) hK fun fr hK => ?_
   refine qs 32 hK ?_
   clear hK fr; intro fr hK
   refine qs 33 hK ?_
   clear hK fr; intro fr hK
   refine qs 34 hK ?_
   clear hK fr; intro fr hK
   refine qs 35 hK ?_
   clear hK fr; intro fr hK
   refine qs 36 hK ?_
   clear hK fr; intro fr hK
   refine qp 37 (.bool false) hK fun fr hK => ?_
   refine qp 4 (.bool false) hK fun fr hK => ?_
   refine wpListIn_nil (then_n ?_)
   refine wpIn_ret ?_
   replace h := Option.some.inj h; subst h
   refine ret_of [.tmp 4] [.bool false] rfl hK (.tmp rfl .nil) hS.dropAll ?_
   exact ⟨rfl, rfl⟩
 ·
  replace hK := hK.more (t := 10) (v' := .bool false) rfl (by rw [hb1])
  replace hK := hK.more (t := 9) (v' := .bool false) rfl (by rw [hb1])
  replace h := ite_f (ne_of_beq_false hb1) h
  refine qs 11 hK ?_
  clear hK fr; intro fr hK
  refine qs 12 hK ?_
  clear hK fr; intro fr hK
  refine qs 13 hK ?_
  clear hK fr; intro fr hK
  refine qs 14 hK ?_
  clear hK fr; intro fr hK
  refine qs 15 hK ?_
  clear hK fr; intro fr hK
  refine qp 16 (.bool false) hK fun fr hK => ?_
  refine qp 17 (.bool false) hK fun fr hK => ?_
  refine qs 18 hK ?_
  clear hK fr; intro fr hK
  refine qs 19 hK ?_
  clear hK fr; intro fr hK
  refine qs 20 hK ?_
  clear hK fr; intro fr hK
  refine qs 21 hK ?_
  clear hK fr; intro fr hK
  refine qs 22 hK ?_
  clear hK fr; intro fr hK
  refine qp 23 (.bool false) hK fun fr hK => ?_
  refine qp 24 (.bool false) hK fun fr hK => ?_
  refine qs 25 hK ?_
  clear hK fr; intro fr hK
  refine qs 26 hK ?_
  clear hK fr; intro fr hK
  refine qs 27 hK ?_
  clear hK fr; intro fr hK
  refine qs 28 hK ?_
  clear hK fr; intro fr hK
  refine qs 29 hK ?_
  clear hK fr; intro fr hK
  refine qp 30 (.bool false) hK fun fr hK => ?_
  refine qp 31 (.bool false) hK fun fr hK => ?_
  refine qs 32 hK ?_
  clear hK fr; intro fr hK
  refine qs 33 hK ?_
  clear hK fr; intro fr hK
  refine qs 34 hK ?_
  clear hK fr; intro fr hK
  refine qs 35 hK ?_
  clear hK fr; intro fr hK
  refine qs 36 hK ?_
  clear hK fr; intro fr hK
  refine qp 37 (.bool false) hK fun fr hK => ?_
  refine qp 4 (.bool false) hK fun fr hK => ?_
  refine wpListIn_nil (then_n ?_)
  refine wpIn_ret ?_
  replace h := Option.some.inj h; subst h
  refine ret_of [.tmp 4] [.bool false] rfl hK (.tmp rfl .nil) hS.dropAll ?_
  exact ⟨rfl, rfl⟩
end Go.Proofs.Ytkalbidbhaalmaa
