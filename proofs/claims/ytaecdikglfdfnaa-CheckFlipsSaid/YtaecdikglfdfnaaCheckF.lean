/- The contract of the reference's Open. -/
import Derived.Test.YtaecdikglfdfnaaCheckE
import Derived.Test.YtaecdikglfdfnaaRel
namespace Go.Proofs.Ytaecdikglfdfnaa
open Go.RowKit
def IsBy (n : Nat) (bs : List UInt8) (v : Value) (w : World) : Prop := ∃ a c, v = .slice a n c ∧ By w a n c bs
theorem mono_isBy (n : Nat) (bs : List UInt8) : Rel.Mono (IsBy n bs) := fun _ _ _ ⟨a, c, e, h⟩ g => ⟨a, c, e, h.grow g⟩
/-- What the reference's Open answers. -/
def openedLen (bs : List UInt8) : Int := if (opened bs).isSome then ((bs.length - 4 : Nat) : Int) else -1

theorem openedLen_eq {bs : List UInt8} {m : Nat} (hl : bs.length = m + 4) {B : Bool} (hB : (sealed (bs.take m) != bs) = B) : (if B = true then (-1 : Int) else (m : Int)) = openedLen bs := by
  unfold openedLen opened
  have e : bs.length - 4 = m := by omega
  rw [e]
  cases B
  · have h : sealed (bs.take m) = bs := by simpa using hB
    rw [if_pos (c := 4 ≤ bs.length ∧ _) ⟨by omega, h⟩]; simp
  · have h : ¬ sealed (bs.take m) = bs := by simpa using hB
    rw [if_neg (c := 4 ≤ bs.length ∧ _) (fun k => h k.2)]; simp

set_option maxHeartbeats 1000000 in
theorem refOpen_calls (a : Option Addr) (n cap : Nat) (bs : List UInt8) (w : World) (hp : By w a n cap bs) (hn : n ≤ 1000000) :
    Calls Try.prog 16 #[.slice a n cap] w fun e w' => e = .returned (.int .i64 (openedLen bs)) ∧ Grow w w' := by
  have hc := hp.2.1
  have HL := Lib.hid hp.len
  have HP := Lib.hid hp
  clear hp
  by_cases h4 : n < 4
  · have hd : decide ((n : Int) - 4 < 0) = true := by simp; omega
    go_enter Try.func16, Try.ntmps16
    go_wp2
    go_quiet (fail)
    go_wp2
    go_ret
    refine ⟨ret_int ?_, (Grow.refl _).drewN _⟩
    have := HL.out; unfold openedLen opened; rw [if_neg (c := 4 ≤ bs.length ∧ _) (by rintro ⟨h, _⟩; omega)]; rfl
  · obtain ⟨m, rfl⟩ : ∃ m, n = m + 4 := ⟨n - 4, by omega⟩
    have hm : By w a m cap (bs.take m) := HP.out.upto m (by omega)
    have Hm := Lib.hid hm
    clear hm
    go_enter Try.func16, Try.ntmps16
    go_wp2
    refine Rel.wp_region_walk [[(3, none)], [(7, some 0)], [(8, some 0)], [(0, none), (9, some 0)], [(3, none), (9, some 1)], [(10, some 1), (11, some 0), (9, some 2)], [(12, some 0), (9, some 3)], [(13, some 0), (9, some 4)], [(0, none), (9, some 5)], [(15, some 0), (9, some 6)], [(14, some 2), (16, some 0), (9, some 7)], [(9, some 8), (17, some 0)]] (by kernel_rfl) (by kernel_rfl) (by kernel_rfl) ?_
    -- 0: slot 7 := Op.move t3
    refine Rel.on_same _ (fun u _ => u = .int .i64 m) (Rel.mono_eq _) (.inl rfl) (fun ac W hg hk => ⟨Rel.wanted_none rfl, hk.1⟩) ?_
    -- 1: slot 8 := Op.binOp BinOp.lss 3 t7 (const (i64 0)) 3
    refine Rel.on_val (.bool false) (fun ac W hg hk => by have k7 : ac.eval (.tmp 7) = .int .i64 m := hk.1; exact ⟨Rel.wanted_none rfl, by simp [go_sem, Rel.ev k7]⟩) ?_
    -- 2: slot 9 := Op.move t8
    refine Rel.on_same _ (fun u _ => u = .bool false) (Rel.mono_eq _) (.inl rfl) (fun ac W hg hk => ⟨Rel.wanted_none rfl, hk.1⟩) ?_
    -- 3: slot 10 := Op.move t0
    refine Rel.on_same _ (fun u _ => u = .slice a (m + 4) cap) (Rel.mono_eq _) (.inl rfl) (fun ac W hg hk => ⟨Rel.wanted_yes rfl rfl (hk.2.1), hk.1⟩) ?_
    -- 4: slot 11 := Op.move t3
    refine Rel.on_same _ (fun u _ => u = .int .i64 m) (Rel.mono_eq _) (.inl rfl) (fun ac W hg hk => ⟨Rel.wanted_yes rfl rfl (hk.2.1), hk.1⟩) ?_
    -- 5: slot 12 := Op.slice 24 t10 none (some t11) none
    refine Rel.on_val (.slice a m cap) (fun ac W hg hk => by have k10 : ac.eval (.tmp 10) = .slice a (m + 4) cap := hk.1; have k11 : ac.eval (.tmp 11) = .int .i64 m := hk.2.1; have k9 : ac.eval (.tmp 9) = .bool false := hk.2.2.1; exact ⟨Rel.wanted_yes rfl rfl k9, by have h : m ≤ cap := (by omega); simp [go_sem, Rel.ev k10, Rel.ev k11, h]⟩) ?_
    -- 6: slot 13 := Op.call { callee := func ( 13), args := #[t12], argTypes := #[24] }
    refine Rel.on_call (IsBy (m + 4) (sealed (bs.take m))) (mono_isBy _ _) 13 (fun ac W hg hk => by have k12 : ac.eval (.tmp 12) = .slice a m cap := hk.1; have k9 : ac.eval (.tmp 9) = .bool false := hk.2.1; exact ⟨Rel.wanted_yes rfl rfl k9, #[.slice a m cap], by simp [go_sem, Rel.ev k12], by refine (refSeal_calls a m cap (bs.take m) W (Hm.out.grow hg) (by omega)).mono ?_; rintro e w1 ⟨a', c', rfl, ho, hg1⟩; exact ⟨_, rfl, ⟨a', c', rfl, ho.by⟩, hg1⟩⟩) ?_
    -- 7: slot 14 := Op.convert 24 9 t13
    refine Rel.on_val (.string ⟨(sealed (bs.take m)).toArray⟩) (fun ac W hg hk => by have k13 : (IsBy (m + 4) (sealed (bs.take m))) (ac.eval (.tmp 13)) W := hk.1; have k9 : ac.eval (.tmp 9) = .bool false := hk.2.1; exact ⟨Rel.wanted_yes rfl rfl k9, by obtain ⟨a', c', e, hb⟩ := k13; simp [go_sem, Rel.ev e, run_string_by byT.und und8 undS hb]⟩) ?_
    -- 8: slot 15 := Op.move t0
    refine Rel.on_same _ (fun u _ => u = .slice a (m + 4) cap) (Rel.mono_eq _) (.inl rfl) (fun ac W hg hk => ⟨Rel.wanted_yes rfl rfl (hk.2.1), hk.1⟩) ?_
    -- 9: slot 16 := Op.convert 24 9 t15
    refine Rel.on_val (.string ⟨bs.toArray⟩) (fun ac W hg hk => by have k15 : ac.eval (.tmp 15) = .slice a (m + 4) cap := hk.1; have k9 : ac.eval (.tmp 9) = .bool false := hk.2.1; exact ⟨Rel.wanted_yes rfl rfl k9, by simp [go_sem, Rel.ev k15, run_string_by byT.und und8 undS (HP.out.grow hg)]⟩) ?_
    -- 10: slot 17 := Op.binOp BinOp.neq 9 t14 t16 9
    refine Rel.on_val (.bool (sealed (bs.take m) != bs)) (fun ac W hg hk => by have k14 : ac.eval (.tmp 14) = .string ⟨(sealed (bs.take m)).toArray⟩ := hk.1; have k16 : ac.eval (.tmp 16) = .string ⟨bs.toArray⟩ := hk.2.1; have k9 : ac.eval (.tmp 9) = .bool false := hk.2.2.1; exact ⟨Rel.wanted_yes rfl rfl k9, by simp [go_sem, Rel.ev k14, Rel.ev k16]; simp [bne]⟩) ?_
    -- 11: slot 18 := Op.pick t9 (const (Value.bool true)) t17
    refine Rel.on_val (.bool (sealed (bs.take m) != bs)) (fun ac W hg hk => by have k9 : ac.eval (.tmp 9) = .bool false := hk.1; have k17 : ac.eval (.tmp 17) = .bool (sealed (bs.take m) != bs) := hk.2.1; exact ⟨Rel.wanted_none rfl, by simp [go_sem, Rel.ev k9, Rel.ev k17]⟩) ?_
    rintro ac w1 hg1 hE
    obtain ⟨x13, hx13⟩ : ∃ x, ac.eval (.tmp 13) = x := ⟨_, rfl⟩
    have r13 : (IsBy (m + 4) (sealed (bs.take m))) x13 w1 := hx13 ▸ hE.2.2 13
    obtain rfl := Rel.frame [(7, .int .i64 m), (8, .bool false), (9, .bool false), (10, .slice a (m + 4) cap), (11, .int .i64 m), (12, .slice a m cap), (13, x13), (14, .string ⟨(sealed (bs.take m)).toArray⟩), (15, .slice a (m + 4) cap), (16, .string ⟨bs.toArray⟩), (17, .bool (sealed (bs.take m) != bs)), (18, .bool (sealed (bs.take m) != bs))] hE (by kernel_rfl) ⟨hE.2.2 7, hE.2.2 8, hE.2.2 9, hE.2.2 10, hE.2.2 11, hE.2.2 12, hx13, hE.2.2 14, hE.2.2 15, hE.2.2 16, hE.2.2 17, hE.2.2 18, trivial⟩
    clear hE hx13
    simp only [Rel.putAll, Act.put, List.setIfInBounds_toArray, List.set_cons_zero, List.set_cons_succ]
    clear r13
    generalize hB : (sealed (bs.take m) != bs) = B
    have HB := Lib.hid hB
    have Hg := Lib.hid hg1
    clear hB hg1
    cases B
    all_goals
      go_wp2
      go_ret
      refine ⟨ret_int ?_, Hg.out⟩
      exact openedLen_eq HL.out HB.out
end Go.Proofs.Ytaecdikglfdfnaa
