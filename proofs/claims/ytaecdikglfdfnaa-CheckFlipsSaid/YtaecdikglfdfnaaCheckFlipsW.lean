/- The contract of graftlaw03.CheckFlips. -/
import Derived.Test.YtaecdikglfdfnaaCheckH
namespace Go.Proofs.Ytaecdikglfdfnaa
open Go.RowKit
theorem flip_ne (n bit : Nat) : flip n bit ≠ 0#32 := by
  intro h
  have := Crc.steps_zero_inv _ _ h
  have hk : bit % 8 < 8 := by omega
  have hd : ∀ k : Fin 8, 1#32 <<< k.val ≠ 0#32 := by decide
  exact hd ⟨bit % 8, hk⟩ this
/-- The bytes with the bit flipped. -/
def flipped (bs : List UInt8) (bit : Nat) : List UInt8 := bs.set (bit / 8) (bs.getD (bit / 8) 0 ^^^ UInt8.ofNat (2 ^ (bit % 8)))
theorem crc_flipped (bs : List UInt8) (bit : Nat) (h : bit < 8 * bs.length) : crc (0#32) (flipped bs bit) = crc (0#32) bs ^^^ flip bs.length bit := by
  rw [← reg0_one bs.length bit h]
  unfold crc
  rw [← Crc.ext_xor_zero _ _ _ (by simp [bv, oneBit])]
  congr 1
  have hlt : bit / 8 < bs.length := by omega
  unfold flipped oneBit bv
  apply List.ext_getElem
  · simp
  · intro i h1 h2
    simp only [List.getElem_map, List.getElem_zipWith, List.getElem_set, List.getElem_replicate]
    by_cases hi : bit / 8 = i
    · subst hi
      simp [hlt]
    · simp [hi]

set_option maxRecDepth 100000 in
set_option maxHeartbeats 1000000 in
theorem checkFlips_calls (a : Option Addr) (n cap : Nat) (bs : List UInt8) (bit : Int) (w : World) (hp : By w a n cap bs) (hw : (Lit.int .i64 bit).wf = true) :
    Calls Try.prog 7 #[.slice a n cap, .int .i64 bit] w fun e w' => e = .returned (.bool true) ∧ Grow w w' := by
  have h63 := hp.lt63
  have HL := Lib.hid hp.len
  have HP := Lib.hid hp
  clear hp
  by_cases hn : 200 < n
  · go_enter Try.func7, Try.ntmps7
    go_wp2_with (go_at_call 8; (refine (alive_calls _).mono ?_); rintro e w1 ⟨rfl, hg1⟩)
    go_ret
    exact ⟨rfl, hg1⟩
  · by_cases hok : 0 ≤ bit ∧ bit < 8 * n
    · obtain ⟨h0, h8⟩ := hok
      obtain ⟨q, rfl⟩ := Int.eq_ofNat_of_zero_le h0
      have hq : q < 8 * n := by omega
      go_enter Try.func7, Try.ntmps7
      go_wp2_with fail
      refine (flip_yes n q _ (by omega) (by omega) hq).mono ?_
      rintro e w1 ⟨rfl, rfl⟩
      go_wp2_with fail
      refine (refFlip_yes n q _ (by omega) (by omega) hq).mono ?_
      rintro e w1 ⟨rfl, hg1⟩
      rw [refFlip_eq n q hq]
      have hne := flip_ne n q
      have hx := crc_flipped bs q (by have := HL.out; omega)
      rw [HL.out] at hx
      generalize flip n q = F at *
      have Hx := Lib.hid hx
      have Hne := Lib.hid hne
      have Hg1 := Lib.hid hg1
      clear hx hne hg1
      have hb : (N32 F != N32 F) = false := by simp
      go_wp2_with (at_builtin; (refine append_own (d := some 41) n byT (base := w1.heap.size) rfl (Own.lit _ #[] 0 (Nat.le_refl _) (by simp [maxLen]) rfl) rfl ((HP.out.grow Hg1.out).grow ((Grow.refl _).alloc _)) (u8s_one _) (by omega) (by simp [maxLen]; omega) (by simp) (by omega) ?_); intro a2 c2 w2 hown hg2)
      have hob : OwnBy w2 w1.heap.size 5 a2 n c2 bs := by simpa using hown
      have Hg12 := Lib.hid (show Grow w1 w2 from ((Grow.refl _).alloc _).grown hg2 (fun k e => by cases e; exact Nat.le_refl _))
      clear hown hg2
      obtain ⟨g, rfl, hgb, hgl⟩ := hob.addr (by omega)
      have hcell := hob.cell (j := q / 8) (by omega)
      have hfr := hob.frozen (q / 8)
      have Hob := Lib.hid hob
      clear hob
      generalize hc : bs.getD (q / 8) 0 = c at hcell
      have hpw : (2 : Int) ^ (q % 8) % 256 = ((UInt8.ofNat (2 ^ (q % 8))).toNat : Int) := by
        rw [UInt8.toNat_ofNat', Int.natCast_emod, Int.natCast_pow]; rfl
      generalize hm : UInt8.ofNat (2 ^ (q % 8)) = m at hpw
      have Hc := Lib.hid hc
      have Hm := Lib.hid hm
      have hux := u8_xor c m
      generalize hcm : c ^^^ m = cm at hux
      have Hcm := Lib.hid hcm
      have Hgb := Lib.hid hgb
      clear hc hm hcm hgb hgl
      go_region
      obtain ⟨hb3, hg3⟩ := Hob.out.store (q / 8) cm
      have hfl : bs.set (q / 8) cm = flipped bs q := by unfold flipped; rw [Hc.out, Hm.out, Hcm.out]
      rw [hfl] at hb3
      have hg13 : Grow w1 (w2.setCell ⟨g, q / 8, none⟩ (U8 cm)).drew := (Hg12.out.grown hg3 (fun k e => by cases e; exact Hgb.out)).drew
      have hb3' : By (w2.setCell ⟨g, q / 8, none⟩ (U8 cm)).drew (some ⟨g, 0, none⟩) n c2 (flipped bs q) := hb3.by.grow ((Grow.refl _).drew)
      generalize hW : (w2.setCell ⟨g, q / 8, none⟩ (U8 cm)).drew = w3 at *
      have Hb3 := Lib.hid hb3'
      have Hg3 := Lib.hid (Hg1.out.trans hg13)
      clear hW hb3 hb3' hg3 hg13 hfl hcell hfr hpw hux
      go_wp2_with (go_at_call 8; (refine (alive_calls _).mono ?_); rintro e w4 ⟨rfl, hg4⟩)
      refine (of_calls _ _ _ [flipped bs q] _ (Parts.one (Hb3.out.grow hg4) _)).mono ?_
      rintro e w5 ⟨rfl, hg5⟩
      have Hg5 := Lib.hid (Hg3.out.trans ((hg4.alloc _).trans hg5))
      clear hg4 hg5
      generalize hD : crc (0#32) [flipped bs q].flatten = D
      have HD := Lib.hid hD
      clear hD
      go_wp2_with fail
      refine (of_calls _ _ _ [bs] _ (Parts.one (HP.out.grow Hg5.out) _)).mono ?_
      rintro e w6 ⟨rfl, hg6⟩
      have Hg6 := Lib.hid ((Hg5.out.alloc _).trans hg6)
      clear hg6
      generalize hC : crc (0#32) [bs].flatten = C
      have hb1 : (N32 D == N32 (C ^^^ F)) = true := by
        have hx : D = C ^^^ F := by rw [← HD.out, ← hC]; simpa using Hx.out
        rw [hx]; simp
      clear hC
      have hb2 : (N32 F != 0) = true := by
        simp only [bne_iff_ne, ne_eq]
        intro h
        refine Hne.out (BitVec.eq_of_toNat_eq ?_)
        unfold N32 at h; simp; omega
      go_wp2_with fail
      go_ret
      exact ⟨rfl, Hg6.out⟩
    · have hf : flipOk n bit = false := by simp [flipOk]; omega
      have hf2 : flipOk 65537 0 = false := by decide
      have Hf := Lib.hid hf
      have Hf2 := Lib.hid hf2
      clear hf hf2
      go_enter Try.func7, Try.ntmps7
      go_wp2_with fail
      refine (flip_no n bit _ Hf.out).mono ?_
      rintro e w1 ⟨rfl, rfl⟩
      go_wp2_with fail
      refine (refFlip_no n bit _ Hf.out).mono ?_
      rintro e w1 ⟨rfl, rfl⟩
      have hd : bit < 0 ∨ (0 ≤ bit ∧ 8 * (n : Int) ≤ bit) := by omega
      rcases hd with hd | ⟨hd0, hd⟩
      all_goals
        go_wp2_with (first | (go_at_call 8; (refine (alive_calls _).mono ?_); rintro e w4 ⟨rfl, hg4⟩) | (go_at_call 17; (refine (flip_no 65537 0 _ Hf2.out).mono ?_); rintro e w5 ⟨rfl, rfl⟩))
        go_ret
        exact ⟨rfl, hg4⟩
end Go.Proofs.Ytaecdikglfdfnaa
