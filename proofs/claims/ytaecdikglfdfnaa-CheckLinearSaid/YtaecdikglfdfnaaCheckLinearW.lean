/- The contract of graftlaw03.CheckLinear. -/
import Derived.Test.YtaecdikglfdfnaaCheckH
namespace Go.Proofs.Ytaecdikglfdfnaa
open Go.RowKit
def IsParts (n : Nat) (ps : List (List UInt8)) (v : Value) (w : World) : Prop := ∃ a c, v = .slice a n c ∧ Parts w a n c ps
theorem mono_isParts (n : Nat) (ps : List (List UInt8)) : Rel.Mono (IsParts n ps) := fun _ _ _ ⟨a, c, e, h⟩ g => ⟨a, c, e, h.grow g⟩
/-- The exclusive or of three byte strings. -/
def xor3 (x y z : List UInt8) : List UInt8 := List.zipWith (· ^^^ ·) (List.zipWith (· ^^^ ·) x y) z
theorem crc_xor3 (x y z : List UInt8) (h1 : x.length = y.length) (h2 : y.length = z.length) : crc (0#32) (xor3 x y z) = crc (0#32) x ^^^ crc (0#32) y ^^^ crc (0#32) z := by
  have hz : ∀ u v : List UInt8, bv (List.zipWith (· ^^^ ·) u v) = List.zipWith (· ^^^ ·) (bv u) (bv v) := by
    intro u v
    unfold bv
    rw [List.map_zipWith, List.zipWith_map]
    congr 1
  unfold crc xor3 Crc.ext
  rw [hz, hz]
  have r3 : ~~~(0#32) = ~~~(0#32) ^^^ ~~~(0#32) ^^^ ~~~(0#32) := by decide
  have l1 : (bv x).length = (bv y).length := by simpa [bv] using h1
  have l2 : (List.zipWith (· ^^^ ·) (bv x) (bv y)).length = (bv z).length := by simp [bv]; omega
  have e := Crc.reg_xor (List.zipWith (· ^^^ ·) (bv x) (bv y)) (bv z) (~~~(0#32) ^^^ ~~~(0#32)) (~~~(0#32)) l2
  have e2 := Crc.reg_xor (bv x) (bv y) (~~~(0#32)) (~~~(0#32)) l1
  rw [← r3, e2] at e
  rw [e]
  generalize Crc.reg (~~~(0#32)) (bv x) = A
  generalize Crc.reg (~~~(0#32)) (bv y) = B
  generalize Crc.reg (~~~(0#32)) (bv z) = C
  apply BitVec.eq_of_getLsbD_eq
  intro i hi
  simp [hi]
theorem xor3_len (x y z : List UInt8) (h1 : x.length = y.length) (h2 : y.length = z.length) : (xor3 x y z).length = x.length := by simp [xor3]; omega
theorem xor3_get (x y z : List UInt8) (h1 : x.length = y.length) (h2 : y.length = z.length) (i : Nat) (h : i < x.length) : (xor3 x y z).getD i 0 = x.getD i 0 ^^^ y.getD i 0 ^^^ z.getD i 0 := by
  have hz : i < z.length := by omega
  have hy : i < y.length := by omega
  have hl := xor3_len x y z h1 h2
  rw [getD_lt _ _ _ (by omega : i < (xor3 x y z).length), getD_lt _ _ _ h, getD_lt _ _ _ hy, getD_lt _ _ _ hz]
  simp [xor3]

set_option maxRecDepth 100000 in
set_option maxHeartbeats 1000000 in
theorem checkLinear_calls (a1 : Option Addr) (n1 c1 : Nat) (xs : List UInt8) (a2 : Option Addr) (n2 c2 : Nat) (ys : List UInt8) (a3 : Option Addr) (n3 c3 : Nat) (zs : List UInt8) (w : World)
    (hp1 : By w a1 n1 c1 xs) (hp2 : By w a2 n2 c2 ys) (hp3 : By w a3 n3 c3 zs) :
    Calls Try.prog 4 #[.slice a1 n1 c1, .slice a2 n2 c2, .slice a3 n3 c3] w fun e w' => e = .returned (.bool true) ∧ Grow w w' := by
  have h1 := hp1.lt63
  have h2 := hp2.lt63
  have h3 := hp3.lt63
  obtain ⟨n, hn⟩ : ∃ n : Nat, imin (imin (n1 : Int) (n2 : Int)) (n3 : Int) = n := ⟨min (min n1 n2) n3, by unfold imin; split <;> split <;> omega⟩
  have hs1 := imin_spec (imin (n1 : Int) (n2 : Int)) (n3 : Int)
  have hs2 := imin_spec (n1 : Int) (n2 : Int)
  have hle : n ≤ n1 ∧ n ≤ n2 ∧ n ≤ n3 := by omega
  clear hs1 hs2
  have q1 := hp1.upto n hle.1
  have q2 := hp2.upto n hle.2.1
  have q3 := hp3.upto n hle.2.2
  generalize xs.take n = xs at *
  generalize ys.take n = ys at *
  generalize zs.take n = zs at *
  have Q1 := Lib.hid q1
  have Q2 := Lib.hid q2
  have Q3 := Lib.hid q3
  clear q1 q2 q3 hp1 hp2 hp3
  by_cases hbig : 1000 < n
  · go_enter Try.func4, Try.ntmps4
    go_wp2_with (go_at_call 8; (refine (alive_calls _).mono ?_); rintro e w1 ⟨rfl, hg1⟩)
    go_ret
    exact ⟨rfl, hg1⟩
  · go_enter Try.func4, Try.ntmps4
    go_wp2_with (at_make; (refine make_own n byT rfl rfl rfl rfl (by omega) (by simp [maxLen]; omega) ?_); intro w1 hown hg1)
    have hb1 : OwnBy w1 w.heap.size 5 (some ⟨w.heap.size, 0, none⟩) n n (List.replicate n 0) := by
      have e : (madeCells (Value.cells (.int .u8 0)) (n * 1)).toList = (List.replicate n (0 : UInt8)).map U8 := by
        rw [Nat.mul_one]; exact (toList_madeCells_one _ n).trans (by simp)
      rw [e] at hown; exact hown
    have Hb1 := Lib.hid hb1
    have Hg1 := Lib.hid hg1
    clear hown hb1 hg1
    have HN := Lib.hid hn
    clear hn
    go_loopw [24] (fun i wr => ∃ (k : Nat) (cs : List UInt8), k ≤ n ∧ i = .int .i64 k ∧ OwnBy wr w.heap.size 5 (some ⟨w.heap.size, 0, none⟩) n n cs ∧ cs.take k = (xor3 xs ys zs).take k ∧ Grow w wr) (fun i _ => n - (intOf i).toNat)
    case atStart => exact ⟨0, _, by omega, rfl, Hb1.out, rfl, Hg1.out⟩
    case round =>
      obtain ⟨k, cs, hk, rfl, hown, htk, hg⟩ := hrel
      have Hown := Lib.hid hown
      have Htk := Lib.hid htk
      have Hg := Lib.hid hg
      clear hown htk hg
      by_cases hlt : k < n
      · obtain ⟨b1, o1, rfl, hk1⟩ := (Q1.out.grow Hg.out).at hlt
        obtain ⟨b2, o2, rfl, hk2⟩ := (Q2.out.grow Hg.out).at hlt
        obtain ⟨b3, o3, rfl, hk3⟩ := (Q3.out.grow Hg.out).at hlt
        have e1 := hk1 k hlt
        have e2 := hk2 k hlt
        have e3 := hk3 k hlt
        have e0 := Hown.out.cell hlt
        have f0 := Hown.out.frozen k
        clear hk1 hk2 hk3
        generalize hx : xs.getD k 0 = x at e1
        generalize hy : ys.getD k 0 = y at e2
        generalize hz : zs.getD k 0 = z at e3
        generalize cs.getD k 0 = c at e0
        have u1 := u8_xor x y
        generalize hxy : x ^^^ y = xy at u1
        have u2 := u8_xor xy z
        generalize hxyz : xy ^^^ z = r at u2
        have Hr := Lib.hid (show (xor3 xs ys zs).getD k 0 = r by
          rw [xor3_get xs ys zs (by rw [Q1.out.len, Q2.out.len]) (by rw [Q2.out.len, Q3.out.len]) k (by rw [Q1.out.len]; exact hlt), hx, hy, hz, hxy, hxyz])
        clear hx hy hz hxy hxyz
        have hk1 : k < n1 := by omega
        have hk2 : k < n2 := by omega
        have hk3 : k < n3 := by omega
        go_wp2
        go_region
        go_wp2
        go_roundw
        case rel =>
          obtain ⟨hst, hgr⟩ := Hown.out.store k r
          refine ⟨k + 1, cs.set k r, by omega, by go_num, hst.drew, ?_, (Hg.out.grown hgr (fun k e => by cases e; exact Nat.le_refl _)).drew⟩
          have hl : cs.length = n := Hown.out.by.len
          have hxl : (xor3 xs ys zs).length = n := by rw [xor3_len _ _ _ (by rw [Q1.out.len, Q2.out.len]) (by rw [Q2.out.len, Q3.out.len]), Q1.out.len]
          refine take_eq_snoc ?_ (by simp; omega) (by omega) ?_
          · rw [List.take_set_of_le (by omega)]; exact Htk.out
          · rw [List.getElem_set_self, ← Hr.out, getD_lt _ _ _ (by omega)]
        case measure => simp [intOf]; omega
      · have hke : k = n := by omega
        have hl : cs.length = n := Hown.out.by.len
        have hxl : (xor3 xs ys zs).length = n := by rw [xor3_len _ _ _ (by rw [Q1.out.len, Q2.out.len]) (by rw [Q2.out.len, Q3.out.len]), Q1.out.len]
        have hcs : cs = xor3 xs ys zs := by
          have := Htk.out
          rwa [hke, List.take_of_length_le (by omega), List.take_of_length_le (by omega)] at this
        have Hx := Lib.hid (show By wr (some ⟨w.heap.size, 0, none⟩) n n (xor3 xs ys zs) from hcs ▸ Hown.out.by)
        have hcr := Lib.hid (crc_xor3 xs ys zs (by rw [Q1.out.len, Q2.out.len]) (by rw [Q2.out.len, Q3.out.len]))
        clear hcs hl hxl Hown Htk
        have hc1 : n ≤ c1 := by omega
        have hc2 : n ≤ c2 := by omega
        have hc3 : n ≤ c3 := by omega
        go_wp2_with fail
        refine Rel.wp_region_walk [[], [(45, some 0)], [(8, none), (46, some 0)], [(47, some 0), (46, some 1)], [(48, some 0), (46, some 2)], [(0, none), (46, some 3)], [(7, none), (46, some 4)], [(50, some 1), (51, some 0), (46, some 5)], [(52, some 0), (46, some 6)], [(53, some 0), (46, some 7)], [(1, none), (46, some 8)], [(7, none), (46, some 9)], [(55, some 1), (56, some 0), (46, some 10)], [(57, some 0), (46, some 11)], [(58, some 0), (46, some 12)], [(54, some 5), (59, some 0), (46, some 13)], [(2, none), (46, some 14)], [(7, none), (46, some 15)], [(61, some 1), (62, some 0), (46, some 16)], [(63, some 0), (46, some 17)], [(64, some 0), (46, some 18)], [(60, some 5), (65, some 0), (46, some 19)], [(49, some 17), (66, some 0), (46, some 20)], [(46, some 21), (67, some 0)], [(68, some 0)]] (by kernel_rfl) (by kernel_rfl) (by kernel_rfl) ?_
        -- 0: slot 45 := Op.call { callee := func ( 8), args := #[], argTypes := #[] }
        refine Rel.on_call (fun v _ => v = .bool true) (Rel.mono_eq _) 8 (fun ac W hg hk => by  exact ⟨Rel.wanted_none rfl, #[], by simp [go_sem], by refine (alive_calls W).mono ?_; rintro e w1 ⟨rfl, hg1⟩; exact ⟨_, rfl, rfl, hg1⟩⟩) ?_
        -- 1: slot 46 := Op.move t45
        refine Rel.on_same _ (fun u _ => u = .bool true) (Rel.mono_eq _) (.inl rfl) (fun ac W hg hk => ⟨Rel.wanted_none rfl, hk.1⟩) ?_
        -- 2: slot 47 := Op.move t8
        refine Rel.on_same _ (fun u _ => u = .slice (some ⟨w.heap.size, 0, none⟩) n n) (Rel.mono_eq _) (.inl rfl) (fun ac W hg hk => ⟨Rel.wanted_yes rfl rfl (hk.2.1), hk.1⟩) ?_
        -- 3: slot 48 := Op.buildSlice 22 1 #[(0, t47)]
        refine Rel.on_make (IsParts 1 [xor3 xs ys zs]) (mono_isParts _ _) (fun ac W hg hk => by have k47 : ac.eval (.tmp 47) = .slice (some ⟨w.heap.size, 0, none⟩) n n := hk.1; have k46 : ac.eval (.tmp 46) = .bool true := hk.2.1; exact ⟨Rel.wanted_yes rfl rfl k46, by exact ⟨_, _, by simp [go_sem, Rel.ev k47]; exact ⟨rfl, rfl⟩, ⟨_, _, rfl, Parts.one (Hx.out.grow hg) _⟩, (Grow.refl W).alloc _⟩⟩) ?_
        -- 4: slot 49 := Op.call { callee := func ( 9), args := #[t48], argTypes := #[22] }
        refine Rel.on_call (fun v _ => v = U32 (crc (0#32) (xor3 xs ys zs))) (Rel.mono_eq _) 9 (fun ac W hg hk => by have k48 : (IsParts 1 [xor3 xs ys zs]) (ac.eval (.tmp 48)) W := hk.1; have k46 : ac.eval (.tmp 46) = .bool true := hk.2.1; obtain ⟨a', c', e48, hp⟩ := k48; exact ⟨Rel.wanted_yes rfl rfl k46, #[.slice a' 1 c'], by simp [go_sem, Rel.ev e48], by refine (of_calls a' 1 c' _ W hp).mono ?_; rintro e w1 ⟨rfl, hg1⟩; exact ⟨_, rfl, by simp, hg1⟩⟩) ?_
        -- 5: slot 50 := Op.move t0
        refine Rel.on_same _ (fun u _ => u = .slice a1 n1 c1) (Rel.mono_eq _) (.inl rfl) (fun ac W hg hk => ⟨Rel.wanted_yes rfl rfl (hk.2.1), hk.1⟩) ?_
        -- 6: slot 51 := Op.move t7
        refine Rel.on_same _ (fun u _ => u = .int .i64 n) (Rel.mono_eq _) (.inl rfl) (fun ac W hg hk => ⟨Rel.wanted_yes rfl rfl (hk.2.1), hk.1⟩) ?_
        -- 7: slot 52 := Op.slice 24 t50 none (some t51) none
        refine Rel.on_val (.slice a1 n c1) (fun ac W hg hk => by have k50 : ac.eval (.tmp 50) = .slice a1 n1 c1 := hk.1; have k51 : ac.eval (.tmp 51) = .int .i64 n := hk.2.1; have k46 : ac.eval (.tmp 46) = .bool true := hk.2.2.1; exact ⟨Rel.wanted_yes rfl rfl k46, by simp [go_sem, Rel.ev k50, Rel.ev k51, hc1]⟩) ?_
        -- 8: slot 53 := Op.buildSlice 22 1 #[(0, t52)]
        refine Rel.on_make (IsParts 1 [xs]) (mono_isParts _ _) (fun ac W hg hk => by have k52 : ac.eval (.tmp 52) = .slice a1 n c1 := hk.1; have k46 : ac.eval (.tmp 46) = .bool true := hk.2.1; exact ⟨Rel.wanted_yes rfl rfl k46, by exact ⟨_, _, by simp [go_sem, Rel.ev k52]; exact ⟨rfl, rfl⟩, ⟨_, _, rfl, Parts.one ((Q1.out.grow Hg.out).grow hg) _⟩, (Grow.refl W).alloc _⟩⟩) ?_
        -- 9: slot 54 := Op.call { callee := func ( 9), args := #[t53], argTypes := #[22] }
        refine Rel.on_call (fun v _ => v = U32 (crc (0#32) xs)) (Rel.mono_eq _) 9 (fun ac W hg hk => by have k53 : (IsParts 1 [xs]) (ac.eval (.tmp 53)) W := hk.1; have k46 : ac.eval (.tmp 46) = .bool true := hk.2.1; obtain ⟨a', c', e53, hp⟩ := k53; exact ⟨Rel.wanted_yes rfl rfl k46, #[.slice a' 1 c'], by simp [go_sem, Rel.ev e53], by refine (of_calls a' 1 c' _ W hp).mono ?_; rintro e w1 ⟨rfl, hg1⟩; exact ⟨_, rfl, by simp, hg1⟩⟩) ?_
        -- 10: slot 55 := Op.move t1
        refine Rel.on_same _ (fun u _ => u = .slice a2 n2 c2) (Rel.mono_eq _) (.inl rfl) (fun ac W hg hk => ⟨Rel.wanted_yes rfl rfl (hk.2.1), hk.1⟩) ?_
        -- 11: slot 56 := Op.move t7
        refine Rel.on_same _ (fun u _ => u = .int .i64 n) (Rel.mono_eq _) (.inl rfl) (fun ac W hg hk => ⟨Rel.wanted_yes rfl rfl (hk.2.1), hk.1⟩) ?_
        -- 12: slot 57 := Op.slice 24 t55 none (some t56) none
        refine Rel.on_val (.slice a2 n c2) (fun ac W hg hk => by have k55 : ac.eval (.tmp 55) = .slice a2 n2 c2 := hk.1; have k56 : ac.eval (.tmp 56) = .int .i64 n := hk.2.1; have k46 : ac.eval (.tmp 46) = .bool true := hk.2.2.1; exact ⟨Rel.wanted_yes rfl rfl k46, by simp [go_sem, Rel.ev k55, Rel.ev k56, hc2]⟩) ?_
        -- 13: slot 58 := Op.buildSlice 22 1 #[(0, t57)]
        refine Rel.on_make (IsParts 1 [ys]) (mono_isParts _ _) (fun ac W hg hk => by have k57 : ac.eval (.tmp 57) = .slice a2 n c2 := hk.1; have k46 : ac.eval (.tmp 46) = .bool true := hk.2.1; exact ⟨Rel.wanted_yes rfl rfl k46, by exact ⟨_, _, by simp [go_sem, Rel.ev k57]; exact ⟨rfl, rfl⟩, ⟨_, _, rfl, Parts.one ((Q2.out.grow Hg.out).grow hg) _⟩, (Grow.refl W).alloc _⟩⟩) ?_
        -- 14: slot 59 := Op.call { callee := func ( 9), args := #[t58], argTypes := #[22] }
        refine Rel.on_call (fun v _ => v = U32 (crc (0#32) ys)) (Rel.mono_eq _) 9 (fun ac W hg hk => by have k58 : (IsParts 1 [ys]) (ac.eval (.tmp 58)) W := hk.1; have k46 : ac.eval (.tmp 46) = .bool true := hk.2.1; obtain ⟨a', c', e58, hp⟩ := k58; exact ⟨Rel.wanted_yes rfl rfl k46, #[.slice a' 1 c'], by simp [go_sem, Rel.ev e58], by refine (of_calls a' 1 c' _ W hp).mono ?_; rintro e w1 ⟨rfl, hg1⟩; exact ⟨_, rfl, by simp, hg1⟩⟩) ?_
        -- 15: slot 60 := Op.binOp BinOp.xor 25 t54 t59 25
        refine Rel.on_val (U32 (crc (0#32) xs ^^^ crc (0#32) ys)) (fun ac W hg hk => by have k54 : ac.eval (.tmp 54) = U32 (crc (0#32) xs) := hk.1; have k59 : ac.eval (.tmp 59) = U32 (crc (0#32) ys) := hk.2.1; have k46 : ac.eval (.tmp 46) = .bool true := hk.2.2.1; exact ⟨Rel.wanted_yes rfl rfl k46, by simp [go_sem, Rel.ev k54, Rel.ev k59]⟩) ?_
        -- 16: slot 61 := Op.move t2
        refine Rel.on_same _ (fun u _ => u = .slice a3 n3 c3) (Rel.mono_eq _) (.inl rfl) (fun ac W hg hk => ⟨Rel.wanted_yes rfl rfl (hk.2.1), hk.1⟩) ?_
        -- 17: slot 62 := Op.move t7
        refine Rel.on_same _ (fun u _ => u = .int .i64 n) (Rel.mono_eq _) (.inl rfl) (fun ac W hg hk => ⟨Rel.wanted_yes rfl rfl (hk.2.1), hk.1⟩) ?_
        -- 18: slot 63 := Op.slice 24 t61 none (some t62) none
        refine Rel.on_val (.slice a3 n c3) (fun ac W hg hk => by have k61 : ac.eval (.tmp 61) = .slice a3 n3 c3 := hk.1; have k62 : ac.eval (.tmp 62) = .int .i64 n := hk.2.1; have k46 : ac.eval (.tmp 46) = .bool true := hk.2.2.1; exact ⟨Rel.wanted_yes rfl rfl k46, by simp [go_sem, Rel.ev k61, Rel.ev k62, hc3]⟩) ?_
        -- 19: slot 64 := Op.buildSlice 22 1 #[(0, t63)]
        refine Rel.on_make (IsParts 1 [zs]) (mono_isParts _ _) (fun ac W hg hk => by have k63 : ac.eval (.tmp 63) = .slice a3 n c3 := hk.1; have k46 : ac.eval (.tmp 46) = .bool true := hk.2.1; exact ⟨Rel.wanted_yes rfl rfl k46, by exact ⟨_, _, by simp [go_sem, Rel.ev k63]; exact ⟨rfl, rfl⟩, ⟨_, _, rfl, Parts.one ((Q3.out.grow Hg.out).grow hg) _⟩, (Grow.refl W).alloc _⟩⟩) ?_
        -- 20: slot 65 := Op.call { callee := func ( 9), args := #[t64], argTypes := #[22] }
        refine Rel.on_call (fun v _ => v = U32 (crc (0#32) zs)) (Rel.mono_eq _) 9 (fun ac W hg hk => by have k64 : (IsParts 1 [zs]) (ac.eval (.tmp 64)) W := hk.1; have k46 : ac.eval (.tmp 46) = .bool true := hk.2.1; obtain ⟨a', c', e64, hp⟩ := k64; exact ⟨Rel.wanted_yes rfl rfl k46, #[.slice a' 1 c'], by simp [go_sem, Rel.ev e64], by refine (of_calls a' 1 c' _ W hp).mono ?_; rintro e w1 ⟨rfl, hg1⟩; exact ⟨_, rfl, by simp, hg1⟩⟩) ?_
        -- 21: slot 66 := Op.binOp BinOp.xor 25 t60 t65 25
        refine Rel.on_val (U32 (crc (0#32) xs ^^^ crc (0#32) ys ^^^ crc (0#32) zs)) (fun ac W hg hk => by have k60 : ac.eval (.tmp 60) = U32 (crc (0#32) xs ^^^ crc (0#32) ys) := hk.1; have k65 : ac.eval (.tmp 65) = U32 (crc (0#32) zs) := hk.2.1; have k46 : ac.eval (.tmp 46) = .bool true := hk.2.2.1; exact ⟨Rel.wanted_yes rfl rfl k46, by simp [go_sem, Rel.ev k60, Rel.ev k65]⟩) ?_
        -- 22: slot 67 := Op.binOp BinOp.eql 25 t49 t66 25
        refine Rel.on_val (.bool true) (fun ac W hg hk => by have k49 : ac.eval (.tmp 49) = U32 (crc (0#32) (xor3 xs ys zs)) := hk.1; have k66 : ac.eval (.tmp 66) = U32 (crc (0#32) xs ^^^ crc (0#32) ys ^^^ crc (0#32) zs) := hk.2.1; have k46 : ac.eval (.tmp 46) = .bool true := hk.2.2.1; exact ⟨Rel.wanted_yes rfl rfl k46, by simp [go_sem, Rel.ev k49, Rel.ev k66, hcr.out]⟩) ?_
        -- 23: slot 68 := Op.pick t46 t67 (const (Value.bool false))
        refine Rel.on_val (.bool true) (fun ac W hg hk => by have k46 : ac.eval (.tmp 46) = .bool true := hk.1; have k67 : ac.eval (.tmp 67) = .bool true := hk.2.1; exact ⟨Rel.wanted_none rfl, by simp [go_sem, Rel.ev k46, Rel.ev k67]⟩) ?_
        -- 24: slot 6 := Op.assign t68
        refine Rel.on_same _ (fun u _ => u = .bool true) (Rel.mono_eq _) (.inr rfl) (fun ac W hg hk => ⟨Rel.wanted_none rfl, hk.1⟩) ?_
        rintro ac w2 hg2 hE
        obtain ⟨x48, hx48⟩ : ∃ x, ac.eval (.tmp 48) = x := ⟨_, rfl⟩
        have r48 : (IsParts 1 [xor3 xs ys zs]) x48 w2 := hx48 ▸ hE.2.2 48
        obtain ⟨x53, hx53⟩ : ∃ x, ac.eval (.tmp 53) = x := ⟨_, rfl⟩
        have r53 : (IsParts 1 [xs]) x53 w2 := hx53 ▸ hE.2.2 53
        obtain ⟨x58, hx58⟩ : ∃ x, ac.eval (.tmp 58) = x := ⟨_, rfl⟩
        have r58 : (IsParts 1 [ys]) x58 w2 := hx58 ▸ hE.2.2 58
        obtain ⟨x64, hx64⟩ : ∃ x, ac.eval (.tmp 64) = x := ⟨_, rfl⟩
        have r64 : (IsParts 1 [zs]) x64 w2 := hx64 ▸ hE.2.2 64
        obtain rfl := Rel.frame [(6, .bool true), (45, .bool true), (46, .bool true), (47, .slice (some ⟨w.heap.size, 0, none⟩) n n), (48, x48), (49, U32 (crc (0#32) (xor3 xs ys zs))), (50, .slice a1 n1 c1), (51, .int .i64 n), (52, .slice a1 n c1), (53, x53), (54, U32 (crc (0#32) xs)), (55, .slice a2 n2 c2), (56, .int .i64 n), (57, .slice a2 n c2), (58, x58), (59, U32 (crc (0#32) ys)), (60, U32 (crc (0#32) xs ^^^ crc (0#32) ys)), (61, .slice a3 n3 c3), (62, .int .i64 n), (63, .slice a3 n c3), (64, x64), (65, U32 (crc (0#32) zs)), (66, U32 (crc (0#32) xs ^^^ crc (0#32) ys ^^^ crc (0#32) zs)), (67, .bool true), (68, .bool true)] hE (by kernel_rfl) ⟨hE.2.2 6, hE.2.2 45, hE.2.2 46, hE.2.2 47, hx48, hE.2.2 49, hE.2.2 50, hE.2.2 51, hE.2.2 52, hx53, hE.2.2 54, hE.2.2 55, hE.2.2 56, hE.2.2 57, hx58, hE.2.2 59, hE.2.2 60, hE.2.2 61, hE.2.2 62, hE.2.2 63, hx64, hE.2.2 65, hE.2.2 66, hE.2.2 67, hE.2.2 68, trivial⟩
        clear hE hx48 hx53 hx58 hx64
        simp only [Rel.putAll, Act.put, List.setIfInBounds_toArray, List.set_cons_zero, List.set_cons_succ]
        go_wp2_with fail
        go_ret
        exact ⟨rfl, Hg.out.trans hg2⟩
end Go.Proofs.Ytaecdikglfdfnaa
