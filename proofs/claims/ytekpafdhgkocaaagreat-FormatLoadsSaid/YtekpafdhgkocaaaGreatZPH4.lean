/- Part of what the laws need: plain words, the walker and its laws, the program's functions. -/
import Derived.Test.YtekpafdhgkocaaaGreatZPH3
namespace Go.Proofs.YtekpafdhgkocaaaGreat
open G
namespace G
def L8 (v : Nat → BitVec 32) : List Int := [T (v 0), T (v 1), T (v 2), T (v 3), T (v 4), T (v 5), T (v 6), T (v 7)]
theorem zP {v : Nat → BitVec 32} {i : Nat} (h : i < 8) : idx (L8 v) (i : Int) = some (T (v i)) := by
 match i, h with
 | 0, _ => rfl
 | 1, _ => rfl
 | 2, _ => rfl
 | 3, _ => rfl
 | 4, _ => rfl
 | 5, _ => rfl
 | 6, _ => rfl
 | 7, _ => rfl
def ws (m : Nat → BitVec 32) (k : Nat) : List Int := (List.range k).map fun i => T (Wd m i)
theorem EZ (m : Nat → BitVec 32) (k : Nat) : ws m (k + 1) = ws m k ++ [T (Wd m k)] := by unfold ws; rw [List.range_succ, List.map_append]; rfl
theorem DT (m : Nat → BitVec 32) (k : Nat) : (ws m k).length = k := by simp [ws]
theorem yj (m : Nat → BitVec 32) {k i : Nat} (h : i < k) : idx (ws m k) (i : Int) = some (T (Wd m i)) := by
 rw [dh (by rw [DT]; exact h)]; simp [ws]
theorem Cj {b : List UInt8} (h : 64 ≤ b.length) : G.eP b = some (ws (mB b) 64) := by
 unfold G.eP
 have e1 : Iter (G.dC b) (([] : List Int), (0 : Int)) = some (ws (mB b) 16) := by
  refine bA 16 (fun k => (ws (mB b) k, (k : Int))) _ (fun i hi => ?_) ?_ rfl
  · unfold G.dC
    rw [if_pos (by simp only; omega)]
    simp only [wr (k := 4 * i) (show (4 : Int) * (i : Int) = ((4 * i : Nat) : Int) by omega) (by omega)]
    rw [wr (k := 4 * i + 1) (by omega) (by omega), wr (k := 4 * i + 2) (by omega) (by omega), wr (k := 4 * i + 3) (by omega) (by omega), bn 0 (by omega), bn 0 (by omega), bn 0 (by omega), bn 0 (by omega)]
    simp only [Option.bind_some]
    rw [eF (by rw [DT]; simp; omega), wr (k := i + 1) (by omega) (by omega)]
    simp only [Option.bind_some]
    rw [EZ, Lf hi, ← OE]; rfl
  · unfold G.dC
    rw [if_neg (by simp only; omega)]
 rw [e1]
 simp only [Option.bind_some]
 refine bA 48 (fun k => (ws (mB b) (16 + k), ((16 + k : Nat) : Int))) _ (fun k hk => ?_) ?_ rfl
 · unfold G.fv
   rw [if_pos (by simp only; omega)]
   simp only [wr (k := 16 + k - 15) (show ((16 + k : Nat) : Int) - 15 = ((16 + k - 15 : Nat) : Int) by omega) (by omega), wr (k := 16 + k - 2) (show ((16 + k : Nat) : Int) - 2 = ((16 + k - 2 : Nat) : Int) by omega) (by omega), wr (k := 16 + k - 7) (show ((16 + k : Nat) : Int) - 7 = ((16 + k - 7 : Nat) : Int) by omega) (by omega), wr (k := 16 + k - 16) (show ((16 + k : Nat) : Int) - 16 = ((16 + k - 16 : Nat) : Int) by omega) (by omega)]
   rw [yj _ (by omega), yj _ (by omega), yj _ (by omega), yj _ (by omega)]
   simp only [Option.bind_some]
   rw [show (7 : Int) = ((7 : Nat) : Int) from rfl, show (18 : Int) = ((18 : Nat) : Int) from rfl, show (17 : Int) = ((17 : Nat) : Int) from rfl, show (19 : Int) = ((19 : Nat) : Int) from rfl, jH _ (by decide), jH _ (by decide), jH _ (by decide), jH _ (by decide)]
   simp only [Option.bind_some, show ∀ x, bN .u32 (T x) 3 = T (x >>> 3) from fun x => yL x (n := 3) (by decide), show ∀ x, bN .u32 (T x) 10 = T (x >>> 10) from fun x => yL x (n := 10) (by decide), Bc, wB]
   rw [eF (by rw [DT]; simp; omega), wr (k := 16 + (k + 1)) (by omega) (by omega)]
   simp only [Option.bind_some]
   rw [show 16 + (k + 1) = (16 + k) + 1 from rfl, EZ, Ld (t := 16 + k) (by omega)]; rfl
 · unfold G.fv
   rw [if_neg (by simp only; omega)]
theorem G0 {K m V : Nat → BitVec 32} {wl kl : List Int} {t : Nat} (hlt : t < 64) (hw : idx wl (t : Int) = some (T (Wd m t))) (hk : idx kl (t : Int) = some (T (K t))) :
 G.dw wl kl (L8 V, (t : Int)) = some (.inl (L8 (step V (K t) (Wd m t)), ((t + 1 : Nat) : Int))) := by
 unfold G.dw
 rw [if_pos (by simp only; omega)]
 simp only [show idx (L8 V) 4 = some (T (V 4)) from rfl, show idx (L8 V) 0 = some (T (V 0)) from rfl, show idx (L8 V) 7 = some (T (V 7)) from rfl, show idx (L8 V) 5 = some (T (V 5)) from rfl, show idx (L8 V) 6 = some (T (V 6)) from rfl, show idx (L8 V) 1 = some (T (V 1)) from rfl, show idx (L8 V) 2 = some (T (V 2)) from rfl, show idx (L8 V) 3 = some (T (V 3)) from rfl, hw, hk, Option.bind_some]
 rw [show G.aG (T (V 4)) 6 = _ from jH _ (n := 6) (by decide), show G.aG (T (V 4)) 11 = _ from jH _ (n := 11) (by decide), show G.aG (T (V 4)) 25 = _ from jH _ (n := 25) (by decide), show G.aG (T (V 0)) 2 = _ from jH _ (n := 2) (by decide), show G.aG (T (V 0)) 13 = _ from jH _ (n := 13) (by decide), show G.aG (T (V 0)) 22 = _ from jH _ (n := 22) (by decide)]
 simp only [Option.bind_some, N3, Bc, K9, Jm, wB]
 rw [wr (k := t + 1) (by omega) (by omega)]; rfl
theorem Fe {K m s : Nat → BitVec 32} {wl kl : List Int} (hw : ∀ t : Nat, t < 64 → idx wl (t : Int) = some (T (Wd m t))) (hk : ∀ t : Nat, t < 64 → idx kl (t : Int) = some (T (K t))) :
 G.gA (L8 s) wl kl = some (L8 fun i => s i + Kr K m s 64 i) := by
 unfold G.gA
 rw [eF (by simp [L8])]
 simp only [Option.bind_some, List.nil_append]
 have e : Iter (G.dw wl kl) (L8 s, (0 : Int)) = some (L8 (Kr K m s 64)) := by
  refine bA 64 (fun t => (L8 (Kr K m s t), (t : Int))) _ (fun t ht => ?_) ?_ rfl
  · rw [G0 ht (hw t ht) (hk t ht)]; rfl
  · unfold G.dw
    rw [if_neg (by simp only; omega)]
 rw [e]
 simp only [Option.bind_some]
 generalize Kr K m s 64 = v
 refine bA 8 (fun k => ((L8 fun i => s i + v i).take k, (k : Int))) _ (fun k hk => ?_) ?_ rfl
 · unfold G.gI
   rw [if_pos (by simp only; omega), zP hk, zP hk]
   simp only [Option.bind_some]
   rw [eF (by simp [L8]; omega), wB, wr (k := k + 1) (by omega) (by omega)]
   simp only [Option.bind_some]
   match k, hk with
   | 0, _ => rfl
   | 1, _ => rfl
   | 2, _ => rfl
   | 3, _ => rfl
   | 4, _ => rfl
   | 5, _ => rfl
   | 6, _ => rfl
   | 7, _ => rfl
 · unfold G.gI
   rw [if_neg (by simp only; omega)]; rfl
def Kc (t : Nat) : BitVec 32 := BitVec.ofNat 32 (E3.getD t 0)
def Sc (t : Nat) : BitVec 32 := BitVec.ofNat 32 (S8.getD t 0)
theorem Jj : (E3.all fun x => decide (x < 4294967296)) = true := by kernel_rfl
theorem K7 : E3.length = 64 := by kernel_rfl
theorem NV {t : Nat} (h : t < 64) : (E3.getD t 0 : Int) = T (Kc t) := by
 unfold T Kc
 have hl := K7
 have : E3.getD t 0 < 4294967296 := by
  rw [List.getD_eq_getElem?_getD, List.getElem?_eq_getElem (by omega)]
  exact of_decide_eq_true (List.all_eq_true.1 Jj _ (List.getElem_mem _))
 rw [BitVec.toNat_ofNat, Nat.mod_eq_of_lt this]
theorem K6 {t : Nat} (h : t < 64) : idx (ints E3) (t : Int) = some (T (Kc t)) := by
 have hl := K7
 rw [xe (by omega), ← NV h, List.getD_eq_getElem?_getD, List.getElem?_eq_getElem (by omega)]; rfl
theorem NX (y : Nat → Int) (hy : G.iY = some y) (t : Nat) (ht : t < 64) : y t = T (Kc t) := by
 have h := LV y hy
 have h := congrArg (fun l => idx l (t : Int)) h
 simp only [K6 ht] at h
 rw [dh (by simpa using ht)] at h
 simpa using h
theorem Qh : ints S8 = L8 Sc := by kernel_rfl
theorem L7 {i : Nat} (h : i < 8) : W0 i = T (Sc i) := by
 have e : (G.sY.map fun x => (List.range 8).map x.1) = some (L8 Sc) := by kernel_rfl
 rw [GJ] at e
 have e := congrArg (fun l => idx l (i : Int)) (Option.some.inj e)
 simp only [zP h] at e
 rw [dh (by simpa using h)] at e
 simpa using e
def cS (s : Nat → BitVec 32) (r : List UInt8) : Nat → BitVec 32 := if 64 ≤ r.length then cS (comp Kc (r.take 64) s) (r.drop 64) else s
termination_by r.length
decreasing_by rw [List.length_drop]; omega
theorem Lh {s : Nat → BitVec 32} {r : List UInt8} (h : 64 ≤ r.length) : cS s r = cS (comp Kc (r.take 64) s) (r.drop 64) := by rw [cS, if_pos h]
theorem Li {s : Nat → BitVec 32} {r : List UInt8} (h : ¬ 64 ≤ r.length) : cS s r = s := by rw [cS, if_neg h]
theorem O1 (k : Nat) : ∀ (w : Nat → Int) (s : Nat → BitVec 32) (r : List UInt8), r.length ≤ k → (∀ i, i < 8 → w i = T (s i)) → ∀ i, i < 8 → (tS w r).1 i = T (cS s r i) := by
 induction k using Nat.strongRecOn with
 | _ k ih =>
   intro w s r hr hw
   by_cases h : 64 ≤ r.length
   · rw [zJ h, Lh h]
     exact ih (k - 64) (by omega) _ _ _ (by rw [List.length_drop]; omega) (Ff NX (by rw [List.length_take]; omega) hw)
   · rw [zL h, Li h]; exact hw
theorem KR (k : Nat) : ∀ (w : Nat → Int) (r : List UInt8), r.length ≤ k → (tS w r).2.length = r.length % 64 := by
 induction k using Nat.strongRecOn with
 | _ k ih =>
   intro w r hr
   by_cases h : 64 ≤ r.length
   · rw [zJ h, ih (k - 64) (by omega) _ _ (by rw [List.length_drop]; omega), List.length_drop]; omega
   · rw [zL h]; show r.length = _; omega
theorem yM {m : List UInt8} (hm : m.length ≤ 1000000000) : ∀ (k p : Nat) (s : Nat → BitVec 32), p + 64 * k = m.length → Iter (G.dQ ⟨ints S8, ints E3⟩ m) (L8 s, (p : Int)) = some (L8 (cS s (m.drop p)))
 | 0, p, s, h => by
   rw [Li (by rw [List.length_drop]; omega)]
   refine cH ?_
   unfold G.dQ
   rw [if_neg (by simp only; omega)]
 | k + 1, p, s, h => by
   have hd : 64 ≤ (m.drop p).length := by rw [List.length_drop]; omega
   have ht : 64 ≤ ((m.drop p).take 64).length := by rw [List.length_take]; omega
   rw [Lh hd, List.drop_drop]
   refine (dK ?_).trans (yM hm k (p + 64) (comp Kc ((m.drop p).take 64) s) (by omega))
   unfold G.dQ
   rw [if_pos (by simp only; omega)]
   simp only [wr (k := p + 64) (show (p : Int) + 64 = ((p + 64 : Nat) : Int) by omega) (by omega)]
   rw [pL (by omega)]
   simp only [Option.bind_some, Int.toNat_natCast]
   rw [List.drop_take, show p + 64 - p = 64 by omega, Cj ht]
   simp only [Option.bind_some]
   rw [Fe (m := mB ((m.drop p).take 64)) (K := Kc) (fun t h => yj _ h) (fun t h => K6 h)]
   rfl
def t8 (n : Int) : List UInt8 := (List.range 8).map fun j : Nat => u8 (bN .u64 (IntKind.u64.wrap (IntKind.u64.wrap n * 8)) (IntKind.i64.wrap (8 * (7 - (j : Int)))))
theorem yd (n : Int) : (t8 n).length = 8 := by simp [t8]
theorem EP (n : Int) (l : List UInt8) (hl : l.length ≤ 1000000000) : Iter (G.cj n) (l, (7 : Int)) = some (l ++ t8 n) := by
 refine bA 8 (fun k => (l ++ (t8 n).take k, 7 - (k : Int))) _ (fun k hk => ?_) ?_ (by simp)
 · unfold G.cj
   rw [if_pos (by simp only; omega), bg (by simp only; rw [eK (by omega) (by omega)]; omega)]
   simp only [Option.bind_some]
   rw [eF (by simp; omega), eK (x := 7 - (k : Int) - 1) (by omega) (by omega), List.take_succ_eq_append_getElem (by rw [yd]; exact hk), ← List.append_assoc, show 7 - (k : Int) - 1 = 7 - ((k + 1 : Nat) : Int) by omega]
   simp only [Option.bind_some, t8, List.getElem_map, List.getElem_range]
 · unfold G.cj
   rw [if_neg (by simp only; omega), List.take_of_length_le (by rw [yd]; omega)]
def zs (n : Nat) : List UInt8 := 128 :: (List.replicate ((119 - n % 64) % 64) 0)
theorem A0 (n : Nat) : (zs n).length = (119 - n % 64) % 64 + 1 := by simp [zs]
def pad (b : List UInt8) : List UInt8 := b ++ (zs b.length ++ t8 (b.length : Int))
theorem Kl (b : List UInt8) : ∃ k, (pad b).length = 64 * k := by
 refine ⟨(b.length + 8) / 64 + 1, ?_⟩
 unfold pad
 rw [List.length_append, List.length_append, A0, yd]; omega
theorem ML {b : List UInt8} (hb : b.length ≤ 100000000) : G.iK b = some (pad b) := by
 unfold G.iK
 rw [eF (by simp; omega)]
 simp only [Option.bind_some, List.nil_append]
 rw [eF (by simp; omega)]
 simp only [Option.bind_some]
 have e : Iter G.fQ (b ++ [u8 128]) = some (b ++ zs b.length) := by
  refine bA ((119 - b.length % 64) % 64) (fun k => b ++ ((128 : UInt8) :: List.replicate k 0)) _ (fun k hk => ?_) ?_ rfl
  · unfold G.fQ
    have hl : (b ++ ((128 : UInt8) :: List.replicate k 0)).length = b.length + 1 + k := by simp; omega
    rw [hl, if_pos (by rw [Int.tmod_eq_emod_of_nonneg (by omega)]; omega), eF (by rw [hl]; simp; omega)]
    simp only [Option.bind_some, List.append_assoc, List.cons_append]
    rw [show u8 0 = (0 : UInt8) from rfl, List.replicate_succ' (n := k)]
  · unfold G.fQ
    have hl : (b ++ ((128 : UInt8) :: List.replicate ((119 - b.length % 64) % 64) 0)).length = b.length + 1 + (119 - b.length % 64) % 64 := by simp; omega
    rw [hl, if_neg (by rw [Int.tmod_eq_emod_of_nonneg (by omega)]; omega)]; rfl
 rw [e]
 simp only [Option.bind_some]
 rw [show G.lP b = G.cj (b.length : Int) from rfl, EP _ _ (by rw [List.length_append, A0]; omega)]
 unfold pad
 rw [List.append_assoc]
def Ki (wd : Nat → Int) (i : Nat) : UInt8 := u8 (bN .u32 (wd (i / 4)) (24 - 8 * ((i % 4 : Nat) : Int)))
def uI (wd : Nat → Int) : Nat → (Nat → UInt8)
 | 0 => fun _ => 0
 | k + 1 => ah (uI wd k) (k : Int) (Ki wd k)
theorem xC {a b : Nat → Int} (h : ∀ i, i < 8 → a i = b i) : ∀ k, k ≤ 32 → uI a k = uI b k
 | 0, _ => rfl
 | k + 1, hk => by unfold uI Ki; rw [xC h k (by omega), h (k / 4) (by omega)]
theorem tq (i : Nat) : Int.tdiv (i : Int) 4 = ((i / 4 : Nat) : Int) ∧ Int.tmod (i : Int) 4 = ((i % 4 : Nat) : Int) := by
 refine ⟨?_, ?_⟩
 · rw [Int.tdiv_eq_ediv_of_nonneg (by omega)]; omega
 · rw [Int.tmod_eq_emod_of_nonneg (by omega)]; omega
theorem MJ (y : (Nat → Int) × List UInt8 × Int) : Iter (G.cO y) ((0 : Int), (fun _ => 0)) = some (uI y.1 32, y.1, y.2.1, y.2.2) := by
 refine bA 32 (fun k => ((k : Int), uI y.1 k)) _ (fun k hk => ?_) ?_ rfl
 · unfold G.cO
   rw [if_pos (by simp only; omega)]
   simp only [(tq k).1, (tq k).2, wr (k := k / 4) rfl (by omega), eK (x := ((k % 4 : Nat) : Int) * 8) (by omega) (by omega), eK (x := (24 : Int) - ((k % 4 : Nat) : Int) * 8) (by omega) (by omega), wr (k := k + 1) (show (k : Int) + 1 = ((k + 1 : Nat) : Int) by omega) (by omega)]
   rw [bg (by omega), bg (by omega), bg (by omega)]
   simp only [Option.bind_some, Hl]
   rw [show uI y.1 (k + 1) = ah (uI y.1 k) (k : Int) (Ki y.1 k) from rfl]
   unfold Ki
   rw [Int.mul_comm]
 · unfold G.cO
   rw [if_neg (by simp only; omega)]
theorem H8 (s : Nat → BitVec 32) : Iter (G.fu (L8 s)) ((0 : Int), (fun _ => 0)) = some (uI (fun i => T (s i)) 32) := by
 refine bA 32 (fun k => ((k : Int), uI (fun i => T (s i)) k)) _ (fun k hk => ?_) ?_ rfl
 · unfold G.fu
   rw [if_pos (by simp only; omega)]
   simp only [(tq k).1, (tq k).2, wr (k := k / 4) rfl (by omega), eK (x := (8 : Int) * ((k % 4 : Nat) : Int)) (by omega) (by omega), eK (x := (24 : Int) - 8 * ((k % 4 : Nat) : Int)) (by omega) (by omega), wr (k := k + 1) (show (k : Int) + 1 = ((k + 1 : Nat) : Int) by omega) (by omega)]
   rw [zP (by omega), bg (by omega), bg (by omega)]
   rfl
 · unfold G.fu
   rw [if_neg (by simp only; omega)]
theorem Jl (w : Nat → Int) (r : List UInt8) (n : Int) (h : r.length < 64) : HS w r n = uI (tS w (r ++ (zs r.length ++ t8 n))).1 32 := by
 have e : G.dJ w r n = some (uI (tS w (r ++ (zs r.length ++ t8 n))).1 32, (tS w (r ++ (zs r.length ++ t8 n))).1, (tS w (r ++ (zs r.length ++ t8 n))).2, IntKind.i64.wrap (n + ((zs r.length ++ t8 n).length : Int))) := by
  unfold G.dJ
  have e1 : Int.tmod (IntKind.i64.wrap ((119 : Int) - (r.length : Int))) 64 = (((119 - r.length) % 64 : Nat) : Int) := by
   rw [wr (k := 119 - r.length) (by omega) (by omega)]; exact O2
  rw [e1, bg (by omega)]
  simp only [Option.bind_some]
  rw [eF (by simp; omega)]
  simp only [Option.bind_some]
  have hz : [u8 128] ++ List.replicate (((119 - r.length) % 64 : Nat) : Int).toNat (0 : UInt8) = zs r.length := by
   unfold zs; rw [Nat.mod_eq_of_lt (show r.length < 64 from h)]; rfl
  have hl := A0 r.length
  rw [hz, EP _ _ (by omega)]
  simp only [Option.bind_some]
  rw [Ct, AP _ _ _ _ (by rw [List.length_append, yd]; omega)]
  simp only [Option.bind_some]
  exact MJ _
 unfold HS G.fz G.gF
 rw [tG r (by omega)]
 simp only [Option.bind_some]
 rw [e]; rfl
theorem IJ (x : List UInt8) : sX x = uI (fun i => T (cS Sc (pad x) i)) 32 := by
 unfold sX
 have hr := KR _ W0 x (Nat.le_refl _)
 rw [Jl _ _ _ (DN _ _ _ (Nat.le_refl _)).1]
 have hz : zs (tS W0 x).2.length = zs x.length := by unfold zs; rw [hr, Nat.mod_mod]
 rw [hz, ← I1 _ W0 x _ (Nat.le_refl _)]
 exact xC (fun i hi => O1 _ _ _ _ (Nat.le_refl _) (fun i hi => L7 hi) i hi) 32 (Nat.le_refl _)
theorem E5 {b : List UInt8} (hb : b.length ≤ 100000000) : G.gY b ⟨ints S8, ints E3⟩ = some (sX b) := by
 obtain ⟨k, hk⟩ := Kl b
 have hl : (pad b).length ≤ 1000000000 := by unfold pad; rw [List.length_append, List.length_append, A0, yd]; omega
 unfold G.gY
 rw [ML hb]
 simp only [Option.bind_some]
 have e := yM hl k 0 Sc (by omega)
 rw [List.drop_zero] at e
 rw [Qh] at e ⊢
 have e : Iter (G.dQ ⟨L8 Sc, ints E3⟩ (pad b)) (L8 Sc, (0 : Int)) = _ := e
 rw [e]
 simp only [Option.bind_some]
 rw [H8, IJ]
end G
end Go.Proofs.YtekpafdhgkocaaaGreat
