/- Part of what the laws need: plain words, the walker and its laws, the program's functions. -/
import Derived.Test.YthnhjibbkleneaaZPH3
namespace Go.Proofs.Ythnhjibbkleneaa
open G
namespace G
def L8 (v : Nat → BitVec 32) : List Int := [T (v 0), T (v 1), T (v 2), T (v 3), T (v 4), T (v 5), T (v 6), T (v 7)]
theorem L8_idx {v : Nat → BitVec 32} {i : Nat} (h : i < 8) : idx (L8 v) (i : Int) = some (T (v i)) := by
  match i, h with
  | 0, _ => rfl
  | 1, _ => rfl
  | 2, _ => rfl
  | 3, _ => rfl
  | 4, _ => rfl
  | 5, _ => rfl
  | 6, _ => rfl
  | 7, _ => rfl
def ws (m : Nat → BitVec 32) (k : Nat) : List Int := (List.range k).map fun i => T (Wd m i)
theorem ws_succ (m : Nat → BitVec 32) (k : Nat) : ws m (k + 1) = ws m k ++ [T (Wd m k)] := by unfold ws; rw [List.range_succ, List.map_append]; rfl
theorem ws_len (m : Nat → BitVec 32) (k : Nat) : (ws m k).length = k := by simp [ws]
theorem ws_idx (m : Nat → BitVec 32) {k i : Nat} (h : i < k) : idx (ws m k) (i : Int) = some (T (Wd m i)) := by
  rw [idx_of (by rw [ws_len]; exact h)]; simp [ws]
theorem schedule_of {b : List UInt8} (h : 64 ≤ b.length) : G.graftref02_schedule b = some (ws (mB b) 64) := by
  unfold G.graftref02_schedule
  have e1 : Iter (G.graftref02_schedule_l1 b) (([] : List Int), (0 : Int)) = some (ws (mB b) 16) := by
    refine Iter_count 16 (fun k => (ws (mB b) k, (k : Int))) _ (fun i hi => ?_) ?_ rfl
    · unfold G.graftref02_schedule_l1
      rw [if_pos (by simp only; omega)]
      simp only [wr (k := 4 * i) (show (4 : Int) * (i : Int) = ((4 * i : Nat) : Int) by omega) (by omega)]
      rw [wr (k := 4 * i + 1) (by omega) (by omega), wr (k := 4 * i + 2) (by omega) (by omega), wr (k := 4 * i + 3) (by omega) (by omega), idx_getD 0 (by omega), idx_getD 0 (by omega), idx_getD 0 (by omega), idx_getD 0 (by omega)]
      simp only [Option.bind_some]
      rw [app_of (by rw [ws_len]; simp; omega), wr (k := i + 1) (by omega) (by omega)]
      simp only [Option.bind_some]
      rw [ws_succ, Wd_lt hi, ← mB_T]; rfl
    · unfold G.graftref02_schedule_l1
      rw [if_neg (by simp only; omega)]
  rw [e1]
  simp only [Option.bind_some]
  refine Iter_count 48 (fun k => (ws (mB b) (16 + k), ((16 + k : Nat) : Int))) _ (fun k hk => ?_) ?_ rfl
  · unfold G.graftref02_schedule_l2
    rw [if_pos (by simp only; omega)]
    simp only [wr (k := 16 + k - 15) (show ((16 + k : Nat) : Int) - 15 = ((16 + k - 15 : Nat) : Int) by omega) (by omega), wr (k := 16 + k - 2) (show ((16 + k : Nat) : Int) - 2 = ((16 + k - 2 : Nat) : Int) by omega) (by omega), wr (k := 16 + k - 7) (show ((16 + k : Nat) : Int) - 7 = ((16 + k - 7 : Nat) : Int) by omega) (by omega), wr (k := 16 + k - 16) (show ((16 + k : Nat) : Int) - 16 = ((16 + k - 16 : Nat) : Int) by omega) (by omega)]
    rw [ws_idx _ (by omega), ws_idx _ (by omega), ws_idx _ (by omega), ws_idx _ (by omega)]
    simp only [Option.bind_some]
    rw [show (7 : Int) = ((7 : Nat) : Int) from rfl, show (18 : Int) = ((18 : Nat) : Int) from rfl, show (17 : Int) = ((17 : Nat) : Int) from rfl, show (19 : Int) = ((19 : Nat) : Int) from rfl, rotr_of _ (by decide), rotr_of _ (by decide), rotr_of _ (by decide), rotr_of _ (by decide)]
    simp only [Option.bind_some, show ∀ x, ishr .u32 (T x) 3 = T (x >>> 3) from fun x => T_shr x (n := 3) (by decide), show ∀ x, ishr .u32 (T x) 10 = T (x >>> 10) from fun x => T_shr x (n := 10) (by decide), T_xor, T_add]
    rw [app_of (by rw [ws_len]; simp; omega), wr (k := 16 + (k + 1)) (by omega) (by omega)]
    simp only [Option.bind_some]
    rw [show 16 + (k + 1) = (16 + k) + 1 from rfl, ws_succ, Wd_ge (t := 16 + k) (by omega)]; rfl
  · unfold G.graftref02_schedule_l2
    rw [if_neg (by simp only; omega)]
theorem blk_step {K m V : Nat → BitVec 32} {wl kl : List Int} {t : Nat} (hlt : t < 64) (hw : idx wl (t : Int) = some (T (Wd m t))) (hk : idx kl (t : Int) = some (T (K t))) :
    G.graftref02_block_l1 wl kl (L8 V, (t : Int)) = some (.inl (L8 (step V (K t) (Wd m t)), ((t + 1 : Nat) : Int))) := by
  unfold G.graftref02_block_l1
  rw [if_pos (by simp only; omega)]
  simp only [show idx (L8 V) 4 = some (T (V 4)) from rfl, show idx (L8 V) 0 = some (T (V 0)) from rfl, show idx (L8 V) 7 = some (T (V 7)) from rfl, show idx (L8 V) 5 = some (T (V 5)) from rfl, show idx (L8 V) 6 = some (T (V 6)) from rfl, show idx (L8 V) 1 = some (T (V 1)) from rfl, show idx (L8 V) 2 = some (T (V 2)) from rfl, show idx (L8 V) 3 = some (T (V 3)) from rfl, hw, hk, Option.bind_some]
  rw [show G.graftref02_rotate (T (V 4)) 6 = _ from rotr_of _ (n := 6) (by decide), show G.graftref02_rotate (T (V 4)) 11 = _ from rotr_of _ (n := 11) (by decide), show G.graftref02_rotate (T (V 4)) 25 = _ from rotr_of _ (n := 25) (by decide), show G.graftref02_rotate (T (V 0)) 2 = _ from rotr_of _ (n := 2) (by decide), show G.graftref02_rotate (T (V 0)) 13 = _ from rotr_of _ (n := 13) (by decide), show G.graftref02_rotate (T (V 0)) 22 = _ from rotr_of _ (n := 22) (by decide)]
  simp only [Option.bind_some, T_not, T_xor, T_and, T_or, T_add]
  rw [wr (k := t + 1) (by omega) (by omega)]; rfl
theorem block_ref {K m s : Nat → BitVec 32} {wl kl : List Int} (hw : ∀ t : Nat, t < 64 → idx wl (t : Int) = some (T (Wd m t))) (hk : ∀ t : Nat, t < 64 → idx kl (t : Int) = some (T (K t))) :
    G.graftref02_block (L8 s) wl kl = some (L8 fun i => s i + rds K m s 64 i) := by
  unfold G.graftref02_block
  rw [app_of (by simp [L8])]
  simp only [Option.bind_some, List.nil_append]
  have e : Iter (G.graftref02_block_l1 wl kl) (L8 s, (0 : Int)) = some (L8 (rds K m s 64)) := by
    refine Iter_count 64 (fun t => (L8 (rds K m s t), (t : Int))) _ (fun t ht => ?_) ?_ rfl
    · rw [blk_step ht (hw t ht) (hk t ht)]; rfl
    · unfold G.graftref02_block_l1
      rw [if_neg (by simp only; omega)]
  rw [e]
  simp only [Option.bind_some]
  generalize rds K m s 64 = v
  refine Iter_count 8 (fun k => ((L8 fun i => s i + v i).take k, (k : Int))) _ (fun k hk => ?_) ?_ rfl
  · unfold G.graftref02_block_l2
    rw [if_pos (by simp only; omega), L8_idx hk, L8_idx hk]
    simp only [Option.bind_some]
    rw [app_of (by simp [L8]; omega), T_add, wr (k := k + 1) (by omega) (by omega)]
    simp only [Option.bind_some]
    match k, hk with
    | 0, _ => rfl
    | 1, _ => rfl
    | 2, _ => rfl
    | 3, _ => rfl
    | 4, _ => rfl
    | 5, _ => rfl
    | 6, _ => rfl
    | 7, _ => rfl
  · unfold G.graftref02_block_l2
    rw [if_neg (by simp only; omega)]; rfl
def Kc (t : Nat) : BitVec 32 := BitVec.ofNat 32 (K64.getD t 0)
def Sc (t : Nat) : BitVec 32 := BitVec.ofNat 32 (S8.getD t 0)
theorem K_small : (K64.all fun x => decide (x < 4294967296)) = true := by kernel_rfl
theorem K_len : K64.length = 64 := by kernel_rfl
theorem K_get {t : Nat} (h : t < 64) : (K64.getD t 0 : Int) = T (Kc t) := by
  unfold T Kc
  have hl := K_len
  have : K64.getD t 0 < 4294967296 := by
    rw [List.getD_eq_getElem?_getD, List.getElem?_eq_getElem (by omega)]
    exact of_decide_eq_true (List.all_eq_true.1 K_small _ (List.getElem_mem _))
  rw [BitVec.toNat_ofNat, Nat.mod_eq_of_lt this]
theorem K_idx {t : Nat} (h : t < 64) : idx (ints K64) (t : Int) = some (T (Kc t)) := by
  have hl := K_len
  rw [ints_idx (by omega), ← K_get h, List.getD_eq_getElem?_getD, List.getElem?_eq_getElem (by omega)]; rfl
theorem K_key (y : Nat → Int) (hy : G.sha_keys = some y) (t : Nat) (ht : t < 64) : y t = T (Kc t) := by
  have h := K64_eq y hy
  have h := congrArg (fun l => idx l (t : Int)) h
  simp only [K_idx ht] at h
  rw [idx_of (by simpa using ht)] at h
  simpa using h
theorem S_L8 : ints S8 = L8 Sc := by kernel_rfl
theorem W0_get {i : Nat} (h : i < 8) : W0 i = T (Sc i) := by
  have e : (G.sha_New.map fun x => (List.range 8).map x.1) = some (L8 Sc) := by kernel_rfl
  rw [New_of] at e
  have e := congrArg (fun l => idx l (i : Int)) (Option.some.inj e)
  simp only [L8_idx h] at e
  rw [idx_of (by simpa using h)] at e
  simpa using e
def cS (s : Nat → BitVec 32) (r : List UInt8) : Nat → BitVec 32 := if 64 ≤ r.length then cS (comp Kc (r.take 64) s) (r.drop 64) else s
termination_by r.length
decreasing_by rw [List.length_drop]; omega
theorem cS_ge {s : Nat → BitVec 32} {r : List UInt8} (h : 64 ≤ r.length) : cS s r = cS (comp Kc (r.take 64) s) (r.drop 64) := by rw [cS, if_pos h]
theorem cS_lt {s : Nat → BitVec 32} {r : List UInt8} (h : ¬ 64 ≤ r.length) : cS s r = s := by rw [cS, if_neg h]
theorem tS_cS (k : Nat) : ∀ (w : Nat → Int) (s : Nat → BitVec 32) (r : List UInt8), r.length ≤ k → (∀ i, i < 8 → w i = T (s i)) → ∀ i, i < 8 → (tS w r).1 i = T (cS s r i) := by
  induction k using Nat.strongRecOn with
  | _ k ih =>
    intro w s r hr hw
    by_cases h : 64 ≤ r.length
    · rw [tS_ge h, cS_ge h]
      exact ih (k - 64) (by omega) _ _ _ (by rw [List.length_drop]; omega) (block_val K_key (by rw [List.length_take]; omega) hw)
    · rw [tS_lt h, cS_lt h]; exact hw
theorem tS_rest (k : Nat) : ∀ (w : Nat → Int) (r : List UInt8), r.length ≤ k → (tS w r).2.length = r.length % 64 := by
  induction k using Nat.strongRecOn with
  | _ k ih =>
    intro w r hr
    by_cases h : 64 ≤ r.length
    · rw [tS_ge h, ih (k - 64) (by omega) _ _ (by rw [List.length_drop]; omega), List.length_drop]; omega
    · rw [tS_lt h]; show r.length = _; omega
theorem With_loop {m : List UInt8} (hm : m.length ≤ 1000000000) : ∀ (k p : Nat) (s : Nat → BitVec 32), p + 64 * k = m.length → Iter (G.graftref02_With_l1 ⟨ints S8, ints K64⟩ m) (L8 s, (p : Int)) = some (L8 (cS s (m.drop p)))
  | 0, p, s, h => by
    rw [cS_lt (by rw [List.length_drop]; omega)]
    refine Iter_inr ?_
    unfold G.graftref02_With_l1
    rw [if_neg (by simp only; omega)]
  | k + 1, p, s, h => by
    have hd : 64 ≤ (m.drop p).length := by rw [List.length_drop]; omega
    have ht : 64 ≤ ((m.drop p).take 64).length := by rw [List.length_take]; omega
    rw [cS_ge hd, List.drop_drop]
    refine (Iter_inl ?_).trans (With_loop hm k (p + 64) (comp Kc ((m.drop p).take 64) s) (by omega))
    unfold G.graftref02_With_l1
    rw [if_pos (by simp only; omega)]
    simp only [wr (k := p + 64) (show (p : Int) + 64 = ((p + 64 : Nat) : Int) by omega) (by omega)]
    rw [slcMid_of (by omega)]
    simp only [Option.bind_some, Int.toNat_natCast]
    rw [List.drop_take, show p + 64 - p = 64 by omega, schedule_of ht]
    simp only [Option.bind_some]
    rw [block_ref (m := mB ((m.drop p).take 64)) (K := Kc) (fun t h => ws_idx _ h) (fun t h => K_idx h)]
    rfl
def t8 (n : Int) : List UInt8 := (List.range 8).map fun j : Nat => u8 (ishr .u64 (IntKind.u64.wrap (IntKind.u64.wrap n * 8)) (IntKind.i64.wrap (8 * (7 - (j : Int)))))
theorem t8_len (n : Int) : (t8 n).length = 8 := by simp [t8]
theorem tail_of (n : Int) (l : List UInt8) (hl : l.length ≤ 1000000000) : Iter (G.sha_state_finish_l1 n) (l, (7 : Int)) = some (l ++ t8 n) := by
  refine Iter_count 8 (fun k => (l ++ (t8 n).take k, 7 - (k : Int))) _ (fun k hk => ?_) ?_ (by simp)
  · unfold G.sha_state_finish_l1
    rw [if_pos (by simp only; omega), chk_of (by simp only; rw [w64 (by omega) (by omega)]; omega)]
    simp only [Option.bind_some]
    rw [app_of (by simp; omega), w64 (x := 7 - (k : Int) - 1) (by omega) (by omega), List.take_succ_eq_append_getElem (by rw [t8_len]; exact hk), ← List.append_assoc, show 7 - (k : Int) - 1 = 7 - ((k + 1 : Nat) : Int) by omega]
    simp only [Option.bind_some, t8, List.getElem_map, List.getElem_range]
  · unfold G.sha_state_finish_l1
    rw [if_neg (by simp only; omega), List.take_of_length_le (by rw [t8_len]; omega)]
def zs (n : Nat) : List UInt8 := 128 :: (List.replicate ((119 - n % 64) % 64) 0)
theorem zs_len (n : Nat) : (zs n).length = (119 - n % 64) % 64 + 1 := by simp [zs]
def pad (b : List UInt8) : List UInt8 := b ++ (zs b.length ++ t8 (b.length : Int))
theorem pad_len (b : List UInt8) : ∃ k, (pad b).length = 64 * k := by
  refine ⟨(b.length + 8) / 64 + 1, ?_⟩
  unfold pad
  rw [List.length_append, List.length_append, zs_len, t8_len]; omega
theorem pad_of {b : List UInt8} (hb : b.length ≤ 100000000) : G.graftref02_pad b = some (pad b) := by
  unfold G.graftref02_pad
  rw [app_of (by simp; omega)]
  simp only [Option.bind_some, List.nil_append]
  rw [app_of (by simp; omega)]
  simp only [Option.bind_some]
  have e : Iter G.graftref02_pad_l1 (b ++ [u8 128]) = some (b ++ zs b.length) := by
    refine Iter_count ((119 - b.length % 64) % 64) (fun k => b ++ ((128 : UInt8) :: List.replicate k 0)) _ (fun k hk => ?_) ?_ rfl
    · unfold G.graftref02_pad_l1
      have hl : (b ++ ((128 : UInt8) :: List.replicate k 0)).length = b.length + 1 + k := by simp; omega
      rw [hl, if_pos (by rw [Int.tmod_eq_emod_of_nonneg (by omega)]; omega), app_of (by rw [hl]; simp; omega)]
      simp only [Option.bind_some, List.append_assoc, List.cons_append]
      rw [show u8 0 = (0 : UInt8) from rfl, List.replicate_succ' (n := k)]
    · unfold G.graftref02_pad_l1
      have hl : (b ++ ((128 : UInt8) :: List.replicate ((119 - b.length % 64) % 64) 0)).length = b.length + 1 + (119 - b.length % 64) % 64 := by simp; omega
      rw [hl, if_neg (by rw [Int.tmod_eq_emod_of_nonneg (by omega)]; omega)]; rfl
  rw [e]
  simp only [Option.bind_some]
  rw [show G.graftref02_pad_l2 b = G.sha_state_finish_l1 (b.length : Int) from rfl, tail_of _ _ (by rw [List.length_append, zs_len]; omega)]
  unfold pad
  rw [List.append_assoc]
def outB (wd : Nat → Int) (i : Nat) : UInt8 := u8 (ishr .u32 (wd (i / 4)) (24 - 8 * ((i % 4 : Nat) : Int)))
def outA (wd : Nat → Int) : Nat → (Nat → UInt8)
  | 0 => fun _ => 0
  | k + 1 => setArr (outA wd k) (k : Int) (outB wd k)
theorem outA_congr {a b : Nat → Int} (h : ∀ i, i < 8 → a i = b i) : ∀ k, k ≤ 32 → outA a k = outA b k
  | 0, _ => rfl
  | k + 1, hk => by unfold outA outB; rw [outA_congr h k (by omega), h (k / 4) (by omega)]
theorem tq (i : Nat) : Int.tdiv (i : Int) 4 = ((i / 4 : Nat) : Int) ∧ Int.tmod (i : Int) 4 = ((i % 4 : Nat) : Int) := by
  refine ⟨?_, ?_⟩
  · rw [Int.tdiv_eq_ediv_of_nonneg (by omega)]; omega
  · rw [Int.tmod_eq_emod_of_nonneg (by omega)]; omega
theorem out_of (y : (Nat → Int) × List UInt8 × Int) : Iter (G.sha_state_finish_l2 y) ((0 : Int), (fun _ => 0)) = some (outA y.1 32, y.1, y.2.1, y.2.2) := by
  refine Iter_count 32 (fun k => ((k : Int), outA y.1 k)) _ (fun k hk => ?_) ?_ rfl
  · unfold G.sha_state_finish_l2
    rw [if_pos (by simp only; omega)]
    simp only [(tq k).1, (tq k).2, wr (k := k / 4) rfl (by omega), w64 (x := ((k % 4 : Nat) : Int) * 8) (by omega) (by omega), w64 (x := (24 : Int) - ((k % 4 : Nat) : Int) * 8) (by omega) (by omega), wr (k := k + 1) (show (k : Int) + 1 = ((k + 1 : Nat) : Int) by omega) (by omega)]
    rw [chk_of (by omega), chk_of (by omega), chk_of (by omega)]
    simp only [Option.bind_some, getN]
    rw [show outA y.1 (k + 1) = setArr (outA y.1 k) (k : Int) (outB y.1 k) from rfl]
    unfold outB
    rw [Int.mul_comm]
  · unfold G.sha_state_finish_l2
    rw [if_neg (by simp only; omega)]
theorem out02_of (s : Nat → BitVec 32) : Iter (G.graftref02_With_l2 (L8 s)) ((0 : Int), (fun _ => 0)) = some (outA (fun i => T (s i)) 32) := by
  refine Iter_count 32 (fun k => ((k : Int), outA (fun i => T (s i)) k)) _ (fun k hk => ?_) ?_ rfl
  · unfold G.graftref02_With_l2
    rw [if_pos (by simp only; omega)]
    simp only [(tq k).1, (tq k).2, wr (k := k / 4) rfl (by omega), w64 (x := (8 : Int) * ((k % 4 : Nat) : Int)) (by omega) (by omega), w64 (x := (24 : Int) - 8 * ((k % 4 : Nat) : Int)) (by omega) (by omega), wr (k := k + 1) (show (k : Int) + 1 = ((k + 1 : Nat) : Int) by omega) (by omega)]
    rw [L8_idx (by omega), chk_of (by omega), chk_of (by omega)]
    rfl
  · unfold G.graftref02_With_l2
    rw [if_neg (by simp only; omega)]
theorem Sum_val (w : Nat → Int) (r : List UInt8) (n : Int) (h : r.length < 64) : HS w r n = outA (tS w (r ++ (zs r.length ++ t8 n))).1 32 := by
  have e : G.sha_state_finish w r n = some (outA (tS w (r ++ (zs r.length ++ t8 n))).1 32, (tS w (r ++ (zs r.length ++ t8 n))).1, (tS w (r ++ (zs r.length ++ t8 n))).2, IntKind.i64.wrap (n + ((zs r.length ++ t8 n).length : Int))) := by
    unfold G.sha_state_finish
    have e1 : Int.tmod (IntKind.i64.wrap ((119 : Int) - (r.length : Int))) 64 = (((119 - r.length) % 64 : Nat) : Int) := by
      rw [wr (k := 119 - r.length) (by omega) (by omega)]; exact tm64
    rw [e1, chk_of (by omega)]
    simp only [Option.bind_some]
    rw [app_of (by simp; omega)]
    simp only [Option.bind_some]
    have hz : [u8 128] ++ List.replicate (((119 - r.length) % 64 : Nat) : Int).toNat (0 : UInt8) = zs r.length := by
      unfold zs; rw [Nat.mod_eq_of_lt (show r.length < 64 from h)]; rfl
    have hl := zs_len r.length
    rw [hz, tail_of _ _ (by omega)]
    simp only [Option.bind_some]
    rw [takex_eq, take_of _ _ _ _ (by rw [List.length_append, t8_len]; omega)]
    simp only [Option.bind_some]
    exact out_of _
  unfold HS G.sha_Hash_Sum G.sha_state_copied
  rw [CloneB r (by omega)]
  simp only [Option.bind_some]
  rw [e]; rfl
theorem shaD_val (x : List UInt8) : shaD x = outA (fun i => T (cS Sc (pad x) i)) 32 := by
  unfold shaD
  have hr := tS_rest _ W0 x (Nat.le_refl _)
  rw [Sum_val _ _ _ (tS_len _ _ _ (Nat.le_refl _)).1]
  have hz : zs (tS W0 x).2.length = zs x.length := by unfold zs; rw [hr, Nat.mod_mod]
  rw [hz, ← tS_app _ W0 x _ (Nat.le_refl _)]
  exact outA_congr (fun i hi => tS_cS _ _ _ _ (Nat.le_refl _) (fun i hi => W0_get hi) i hi) 32 (Nat.le_refl _)
theorem With02_of {b : List UInt8} (hb : b.length ≤ 100000000) : G.graftref02_With b ⟨ints S8, ints K64⟩ = some (shaD b) := by
  obtain ⟨k, hk⟩ := pad_len b
  have hl : (pad b).length ≤ 1000000000 := by unfold pad; rw [List.length_append, List.length_append, zs_len, t8_len]; omega
  unfold G.graftref02_With
  rw [pad_of hb]
  simp only [Option.bind_some]
  have e := With_loop hl k 0 Sc (by omega)
  rw [List.drop_zero] at e
  rw [S_L8] at e ⊢
  have e : Iter (G.graftref02_With_l1 ⟨L8 Sc, ints K64⟩ (pad b)) (L8 Sc, (0 : Int)) = _ := e
  rw [e]
  simp only [Option.bind_some]
  rw [out02_of, shaD_val]
end G
end Go.Proofs.Ythnhjibbkleneaa
