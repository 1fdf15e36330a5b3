/- The contract of graftlaw03.CheckParts. -/
import Derived.Test.YtaecdikglfdfnaaCheckH
namespace Go.Proofs.Ytaecdikglfdfnaa
open Go.RowKit
theorem crc_split (ps : List (List UInt8)) (n : Nat) : crc (crc (0#32) (ps.take n).flatten) (ps.drop n).flatten = crc (0#32) ps.flatten := by
  unfold crc bv
  rw [← Crc.ext_append, ← List.map_append, ← List.flatten_append, List.take_append_drop]

set_option maxRecDepth 100000 in
set_option maxHeartbeats 1000000 in
theorem checkParts_calls (a : Option Addr) (n cap : Nat) (ps : List (List UInt8)) (x : Int) (w : World) (hp : Parts w a n cap ps) (hw : (Lit.int .u8 x).wf = true) :
    Calls Try.prog 3 #[.slice a n cap, .int .u8 x] w fun e w' => e = .returned (.bool true) ∧ Grow w w' := by
  have hx : 0 ≤ x ∧ x ≤ 255 := by simpa [Lit.wf, IntKind.min, IntKind.max, IntKind.signed, IntKind.bits] using hw
  clear hw
  obtain ⟨q, rfl⟩ := Int.eq_ofNat_of_zero_le hx.1
  have h63 := hp.lt63
  have HL := Lib.hid hp.len
  have HP := Lib.hid hp
  clear hp
  by_cases hn : 60 < n
  · go_enter Try.func3, Try.ntmps3
    go_wp2_with (go_at_call 8; (refine (alive_calls _).mono ?_); rintro e w1 ⟨rfl, hg1⟩)
    go_ret
    exact ⟨rfl, hg1⟩
  · go_enter Try.func3, Try.ntmps3
    go_wp2_with fail
    go_loopw [5, 15] (fun v i wr => ∃ (k L cc : Nat) (aa : Option Addr), k ≤ n ∧ i = .int .i64 k ∧ v = .slice aa L cc ∧ OwnBy wr w.heap.size 5 aa L cc (ps.take k).flatten ∧ L ≤ 300 * k ∧ Grow w wr) (fun _ i _ => n - (intOf i).toNat)
    case atStart => exact ⟨0, 0, 0, none, by omega, rfl, rfl, Own.nil _ _ _ _, by omega, Grow.refl _⟩
    case round =>
      obtain ⟨k, L, cc, aa, hk, rfl, rfl, hown, hL, hg⟩ := hrel
      have Hown := Lib.hid hown
      have Hg := Lib.hid hg
      clear hown hg
      by_cases hlt : k < n
      · obtain ⟨b, o, rfl, hcs⟩ := (HP.out.grow Hg.out).at hlt
        obtain ⟨a', c', hcell, hby⟩ := hcs k hlt
        clear hcs
        have h63' := hby.lt63
        generalize hP : ps.getD k [] = p at *
        have HB := Lib.hid hby
        have HPk := Lib.hid hP
        clear hby hP
        by_cases hbig : 300 < p.length
        · go_wp2_with (go_at_call 8; (refine (alive_calls _).mono ?_); rintro e w1 ⟨rfl, hg1⟩)
          go_ret
          exact ⟨rfl, Hg.out.trans hg1⟩
        · go_wp2_with (at_builtin; (refine append_own (L + p.length) byT rfl Hown.out rfl HB.out (u8s_one _) (by omega) (by simp [maxLen]; omega) Hg.out.size rfl ?_); intro a1 c1 w1 hown1 hg1)
          go_roundw
          case rel =>
            refine ⟨k + 1, L + p.length, c1, a1, by omega, by go_num, rfl, ?_, by omega, Hg.out.grown hg1 (fun k e => (Hown.out.block k e).1)⟩
            have hkl : k < ps.length := by have := HL.out; omega
            have := HPk.out
            rw [getD_lt _ _ _ hkl] at this
            unfold OwnBy
            rw [List.take_succ_eq_append_getElem hkl, List.flatten_append, List.map_append, this]
            simpa using hown1
          case measure => simp [intOf]; omega
      · have hke : k = n := by omega
        have hall : (ps.take k).flatten = ps.flatten := by rw [hke, List.take_of_length_le (by have := HL.out; omega)]
        have hoa : By wr aa L cc ps.flatten := by rw [← hall]; exact Hown.out.by
        have Hoa := Lib.hid hoa
        clear hoa hall
        go_wp2_with fail
        obtain ⟨m, hm⟩ : ∃ m : Nat, imin (q : Int) (n : Int) = m := ⟨min q n, by unfold imin; split <;> omega⟩
        have hmn : m ≤ n := by have := (imin_spec (q : Int) (n : Int)).2.1; omega
        rw [hm]
        clear hm
        have hmc : m ≤ cap := by omega
        have h1 : Parts w a m cap (ps.take m) := Els.upto HP.out m hmn
        have h2 : Parts w (cutA a cap m 1) (n - m) (cap - m) (ps.drop m) := Els.from HP.out m hmn
        have Hp1 := Lib.hid h1
        have Hp2 := Lib.hid h2
        have Hsp := Lib.hid (crc_split ps m)
        clear h1 h2
        refine Rel.wp_region_walk [[], [(32, some 0)], [(0, none), (33, some 0)], [(34, some 0), (33, some 1)], [(5, none), (33, some 2)], [(36, some 0), (33, some 3)], [(35, some 2), (37, some 0), (33, some 4)], [(33, some 5), (38, some 0)], [(39, some 0)], [(0, none), (40, some 0)], [(8, none), (40, some 1)], [(41, some 1), (42, some 0), (40, some 2)], [(43, some 0), (40, some 3)], [(0, none), (40, some 4)], [(8, none), (40, some 5)], [(45, some 1), (46, some 0), (40, some 6)], [(44, some 3), (47, some 0), (40, some 7)], [(5, none), (40, some 8)], [(49, some 0), (40, some 9)], [(48, some 2), (50, some 0), (40, some 10)], [(40, some 11), (51, some 0)], [(52, some 0)]] (by kernel_rfl) (by kernel_rfl) (by kernel_rfl) ?_
        -- 0: slot 32 := Op.call { callee := func ( 8), args := #[], argTypes := #[] }
        refine Rel.on_call (fun v _ => v = .bool true) (Rel.mono_eq _) 8 (fun ac W hg hk => by  exact ⟨Rel.wanted_none rfl, #[], by simp [go_sem], by refine (alive_calls W).mono ?_; rintro e w1 ⟨rfl, hg1⟩; exact ⟨_, rfl, rfl, hg1⟩⟩) ?_
        -- 1: slot 33 := Op.move t32
        refine Rel.on_same _ (fun u _ => u = .bool true) (Rel.mono_eq _) (.inl rfl) (fun ac W hg hk => ⟨Rel.wanted_none rfl, hk.1⟩) ?_
        -- 2: slot 34 := Op.move t0
        refine Rel.on_same _ (fun u _ => u = .slice a n cap) (Rel.mono_eq _) (.inl rfl) (fun ac W hg hk => ⟨Rel.wanted_yes rfl rfl (hk.2.1), hk.1⟩) ?_
        -- 3: slot 35 := Op.call { callee := func ( 9), args := #[t34], argTypes := #[22] }
        refine Rel.on_call (fun v _ => v = U32 (crc (0#32) ps.flatten)) (Rel.mono_eq _) 9 (fun ac W hg hk => by have k34 : ac.eval (.tmp 34) = .slice a n cap := hk.1; have k33 : ac.eval (.tmp 33) = .bool true := hk.2.1; exact ⟨Rel.wanted_yes rfl rfl k33, #[.slice a n cap], by simp [go_sem, Rel.ev k34], by refine (of_calls a n cap ps W ((HP.out.grow Hg.out).grow hg)).mono ?_; rintro e w1 ⟨rfl, hg1⟩; exact ⟨_, rfl, rfl, hg1⟩⟩) ?_
        -- 4: slot 36 := Op.move t5
        refine Rel.on_same _ (fun u _ => u = .slice aa L cc) (Rel.mono_eq _) (.inl rfl) (fun ac W hg hk => ⟨Rel.wanted_yes rfl rfl (hk.2.1), hk.1⟩) ?_
        -- 5: slot 37 := Op.call { callee := func ( 10), args := #[t36], argTypes := #[24] }
        refine Rel.on_call (fun v _ => v = U32 (crc (0#32) ps.flatten)) (Rel.mono_eq _) 10 (fun ac W hg hk => by have k36 : ac.eval (.tmp 36) = .slice aa L cc := hk.1; have k33 : ac.eval (.tmp 33) = .bool true := hk.2.1; exact ⟨Rel.wanted_yes rfl rfl k33, #[.slice aa L cc], by simp [go_sem, Rel.ev k36], by refine (refOf_calls aa L cc ps.flatten W (Hoa.out.grow hg)).mono ?_; rintro e w1 ⟨rfl, rfl⟩; exact ⟨_, rfl, rfl, Grow.refl _⟩⟩) ?_
        -- 6: slot 38 := Op.binOp BinOp.eql 25 t35 t37 25
        refine Rel.on_val (.bool true) (fun ac W hg hk => by have k35 : ac.eval (.tmp 35) = U32 (crc (0#32) ps.flatten) := hk.1; have k37 : ac.eval (.tmp 37) = U32 (crc (0#32) ps.flatten) := hk.2.1; have k33 : ac.eval (.tmp 33) = .bool true := hk.2.2.1; exact ⟨Rel.wanted_yes rfl rfl k33, by simp [go_sem, Rel.ev k35, Rel.ev k37]⟩) ?_
        -- 7: slot 39 := Op.pick t33 t38 (const (Value.bool false))
        refine Rel.on_val (.bool true) (fun ac W hg hk => by have k33 : ac.eval (.tmp 33) = .bool true := hk.1; have k38 : ac.eval (.tmp 38) = .bool true := hk.2.1; exact ⟨Rel.wanted_none rfl, by simp [go_sem, Rel.ev k33, Rel.ev k38]⟩) ?_
        -- 8: slot 40 := Op.move t39
        refine Rel.on_same _ (fun u _ => u = .bool true) (Rel.mono_eq _) (.inl rfl) (fun ac W hg hk => ⟨Rel.wanted_none rfl, hk.1⟩) ?_
        -- 9: slot 41 := Op.move t0
        refine Rel.on_same _ (fun u _ => u = .slice a n cap) (Rel.mono_eq _) (.inl rfl) (fun ac W hg hk => ⟨Rel.wanted_yes rfl rfl (hk.2.1), hk.1⟩) ?_
        -- 10: slot 42 := Op.move t8
        refine Rel.on_same _ (fun u _ => u = .int .i64 m) (Rel.mono_eq _) (.inl rfl) (fun ac W hg hk => ⟨Rel.wanted_yes rfl rfl (hk.2.1), hk.1⟩) ?_
        -- 11: slot 43 := Op.slice 22 t41 none (some t42) none
        refine Rel.on_val (.slice a m cap) (fun ac W hg hk => by have k41 : ac.eval (.tmp 41) = .slice a n cap := hk.1; have k42 : ac.eval (.tmp 42) = .int .i64 m := hk.2.1; have k40 : ac.eval (.tmp 40) = .bool true := hk.2.2.1; exact ⟨Rel.wanted_yes rfl rfl k40, by simp [go_sem, Rel.ev k41, Rel.ev k42, hmc]⟩) ?_
        -- 12: slot 44 := Op.call { callee := func ( 9), args := #[t43], argTypes := #[22] }
        refine Rel.on_call (fun v _ => v = U32 (crc (0#32) (ps.take m).flatten)) (Rel.mono_eq _) 9 (fun ac W hg hk => by have k43 : ac.eval (.tmp 43) = .slice a m cap := hk.1; have k40 : ac.eval (.tmp 40) = .bool true := hk.2.1; exact ⟨Rel.wanted_yes rfl rfl k40, #[.slice a m cap], by simp [go_sem, Rel.ev k43], by refine (of_calls a m cap (ps.take m) W ((Hp1.out.grow Hg.out).grow hg)).mono ?_; rintro e w1 ⟨rfl, hg1⟩; exact ⟨_, rfl, rfl, hg1⟩⟩) ?_
        -- 13: slot 45 := Op.move t0
        refine Rel.on_same _ (fun u _ => u = .slice a n cap) (Rel.mono_eq _) (.inl rfl) (fun ac W hg hk => ⟨Rel.wanted_yes rfl rfl (hk.2.1), hk.1⟩) ?_
        -- 14: slot 46 := Op.move t8
        refine Rel.on_same _ (fun u _ => u = .int .i64 m) (Rel.mono_eq _) (.inl rfl) (fun ac W hg hk => ⟨Rel.wanted_yes rfl rfl (hk.2.1), hk.1⟩) ?_
        -- 15: slot 47 := Op.slice 22 t45 (some t46) none none
        refine Rel.on_val (.slice (cutA a cap m 1) (n - m) (cap - m)) (fun ac W hg hk => by have k45 : ac.eval (.tmp 45) = .slice a n cap := hk.1; have k46 : ac.eval (.tmp 46) = .int .i64 m := hk.2.1; have k40 : ac.eval (.tmp 40) = .bool true := hk.2.2.1; exact ⟨Rel.wanted_yes rfl rfl k40, by simp [go_sem, Rel.ev k45, Rel.ev k46, hmn, hmc]⟩) ?_
        -- 16: slot 48 := Op.call { callee := func ( 11), args := #[t44, t47], argTypes := #[25, 22] }
        refine Rel.on_call (fun v _ => v = U32 (crc (0#32) ps.flatten)) (Rel.mono_eq _) 11 (fun ac W hg hk => by have k44 : ac.eval (.tmp 44) = U32 (crc (0#32) (ps.take m).flatten) := hk.1; have k47 : ac.eval (.tmp 47) = .slice (cutA a cap m 1) (n - m) (cap - m) := hk.2.1; have k40 : ac.eval (.tmp 40) = .bool true := hk.2.2.1; exact ⟨Rel.wanted_yes rfl rfl k40, #[U32 (crc (0#32) (ps.take m).flatten), .slice (cutA a cap m 1) (n - m) (cap - m)], by simp [go_sem, Rel.ev k44, Rel.ev k47], by refine (extend_calls (crc (0#32) (ps.take m).flatten) (cutA a cap m 1) (n - m) (cap - m) (ps.drop m) W ((Hp2.out.grow Hg.out).grow hg)).mono ?_; rintro e w1 ⟨rfl, hg1⟩; exact ⟨_, rfl, by rw [Hsp.out], hg1⟩⟩) ?_
        -- 17: slot 49 := Op.move t5
        refine Rel.on_same _ (fun u _ => u = .slice aa L cc) (Rel.mono_eq _) (.inl rfl) (fun ac W hg hk => ⟨Rel.wanted_yes rfl rfl (hk.2.1), hk.1⟩) ?_
        -- 18: slot 50 := Op.call { callee := func ( 10), args := #[t49], argTypes := #[24] }
        refine Rel.on_call (fun v _ => v = U32 (crc (0#32) ps.flatten)) (Rel.mono_eq _) 10 (fun ac W hg hk => by have k49 : ac.eval (.tmp 49) = .slice aa L cc := hk.1; have k40 : ac.eval (.tmp 40) = .bool true := hk.2.1; exact ⟨Rel.wanted_yes rfl rfl k40, #[.slice aa L cc], by simp [go_sem, Rel.ev k49], by refine (refOf_calls aa L cc ps.flatten W (Hoa.out.grow hg)).mono ?_; rintro e w1 ⟨rfl, rfl⟩; exact ⟨_, rfl, rfl, Grow.refl _⟩⟩) ?_
        -- 19: slot 51 := Op.binOp BinOp.eql 25 t48 t50 25
        refine Rel.on_val (.bool true) (fun ac W hg hk => by have k48 : ac.eval (.tmp 48) = U32 (crc (0#32) ps.flatten) := hk.1; have k50 : ac.eval (.tmp 50) = U32 (crc (0#32) ps.flatten) := hk.2.1; have k40 : ac.eval (.tmp 40) = .bool true := hk.2.2.1; exact ⟨Rel.wanted_yes rfl rfl k40, by simp [go_sem, Rel.ev k48, Rel.ev k50]⟩) ?_
        -- 20: slot 52 := Op.pick t40 t51 (const (Value.bool false))
        refine Rel.on_val (.bool true) (fun ac W hg hk => by have k40 : ac.eval (.tmp 40) = .bool true := hk.1; have k51 : ac.eval (.tmp 51) = .bool true := hk.2.1; exact ⟨Rel.wanted_none rfl, by simp [go_sem, Rel.ev k40, Rel.ev k51]⟩) ?_
        -- 21: slot 4 := Op.assign t52
        refine Rel.on_same _ (fun u _ => u = .bool true) (Rel.mono_eq _) (.inr rfl) (fun ac W hg hk => ⟨Rel.wanted_none rfl, hk.1⟩) ?_
        rintro ac w2 hg2 hE
        obtain rfl := Rel.frame [(4, .bool true), (32, .bool true), (33, .bool true), (34, .slice a n cap), (35, U32 (crc (0#32) ps.flatten)), (36, .slice aa L cc), (37, U32 (crc (0#32) ps.flatten)), (38, .bool true), (39, .bool true), (40, .bool true), (41, .slice a n cap), (42, .int .i64 m), (43, .slice a m cap), (44, U32 (crc (0#32) (ps.take m).flatten)), (45, .slice a n cap), (46, .int .i64 m), (47, .slice (cutA a cap m 1) (n - m) (cap - m)), (48, U32 (crc (0#32) ps.flatten)), (49, .slice aa L cc), (50, U32 (crc (0#32) ps.flatten)), (51, .bool true), (52, .bool true)] hE (by kernel_rfl) ⟨hE.2.2 4, hE.2.2 32, hE.2.2 33, hE.2.2 34, hE.2.2 35, hE.2.2 36, hE.2.2 37, hE.2.2 38, hE.2.2 39, hE.2.2 40, hE.2.2 41, hE.2.2 42, hE.2.2 43, hE.2.2 44, hE.2.2 45, hE.2.2 46, hE.2.2 47, hE.2.2 48, hE.2.2 49, hE.2.2 50, hE.2.2 51, hE.2.2 52, trivial⟩
        clear hE
        simp only [Rel.putAll, Act.put, List.setIfInBounds_toArray, List.set_cons_zero, List.set_cons_succ]
        go_wp2_with fail
        go_ret
        exact ⟨rfl, Hg.out.trans hg2⟩
end Go.Proofs.Ytaecdikglfdfnaa
