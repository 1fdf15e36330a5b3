/- Part of what the laws need: plain words, the walker and its laws, the program's functions. -/
import Derived.Test.YtekpafdhgkocaaaGreatZPH2
import Derived.Test.YtekpafdhgkocaaaGreatZPH6
namespace Go.Proofs.YtekpafdhgkocaaaGreat
open G
namespace G
def T (x : BitVec 32) : Int := (x.toNat : Int)
theorem wrap32 (n : Nat) : IntKind.u32.wrap (n : Int) = T (BitVec.ofNat 32 n) := by
 unfold T; rw [BitVec.toNat_ofNat]; simp [IntKind.wrap, IntKind.bits, IntKind.signed]
theorem pH (x : BitVec 32) : BitVec.ofInt 32 (T x) = x := by unfold T; rw [BitVec.ofInt_natCast, BitVec.ofNat_toNat, BitVec.setWidth_eq]
theorem CJ (x : BitVec 32) : IntKind.u32.wrap (x.toNat : Int) = T x := by rw [wrap32, BitVec.ofNat_toNat, BitVec.setWidth_eq]
theorem wB (a b : BitVec 32) : IntKind.u32.wrap (T a + T b) = T (a + b) := by
 unfold T; rw [show (a.toNat : Int) + (b.toNat : Int) = ((a.toNat + b.toNat : Nat) : Int) by omega, wrap32]
 unfold T; rw [BitVec.toNat_ofNat, BitVec.toNat_add]
theorem Bc (a b : BitVec 32) : cp .u32 (T a) (T b) = T (a ^^^ b) := by
 show IntKind.u32.wrap (((BitVec.ofInt 32 (T a) ^^^ BitVec.ofInt 32 (T b)).toNat : Nat) : Int) = _
 rw [pH, pH, CJ]
theorem K9 (a b : BitVec 32) : aR .u32 (T a) (T b) = T (a &&& b) := by
 show IntKind.u32.wrap (((BitVec.ofInt 32 (T a) &&& BitVec.ofInt 32 (T b)).toNat : Nat) : Int) = _
 rw [pH, pH, CJ]
theorem Jm (a b : BitVec 32) : tK .u32 (T a) (T b) = T (a ||| b) := by
 show IntKind.u32.wrap (((BitVec.ofInt 32 (T a) ||| BitVec.ofInt 32 (T b)).toNat : Nat) : Int) = _
 rw [pH, pH, CJ]
theorem N3 (x : BitVec 32) : cp .u32 4294967295 (T x) = T (~~~x) := by
 rw [show (4294967295 : Int) = T (BitVec.allOnes 32) by rfl, Bc, BitVec.allOnes_xor]
theorem yL (x : BitVec 32) {n : Nat} (h : n ≤ 32) : bN .u32 (T x) (n : Int) = T (x >>> n) := by
 unfold bN
 rw [show min (n : Int).toNat IntKind.u32.bits = n by simp [IntKind.bits]; omega, Int.fdiv_eq_ediv_of_nonneg _ (Int.le_of_lt (Int.pow_pos (by decide)))]
 unfold T
 rw [BitVec.toNat_ushiftRight, Nat.shiftRight_eq_div_pow]
 simp
theorem Lb (x : BitVec 32) {n : Nat} (h : n ≤ 32) : iC .u32 (T x) (n : Int) = T (x <<< n) := by
 unfold iC
 rw [show min (n : Int).toNat IntKind.u32.bits = n by simp [IntKind.bits]; omega]
 unfold T
 rw [BitVec.toNat_shiftLeft, Nat.shiftLeft_eq, show (x.toNat : Int) * 2 ^ n = ((x.toNat * 2 ^ n : Nat) : Int) by simp, wrap32]
 unfold T; rw [BitVec.toNat_ofNat]
def rr (x : BitVec 32) (n : Nat) : BitVec 32 := x >>> n ||| x <<< (32 - n)
theorem Il : ((List.range 31).all fun i => decide (aR .u64 (IntKind.u64.wrap (-((i + 1 : Nat) : Int))) 31 = ((31 - i : Nat) : Int))) = true := by kernel_rfl
theorem jG (x : BitVec 32) {n : Nat} (h : 0 < n ∧ n < 32) : G.aa (T x) (-(n : Int)) = some (T (rr x n)) := by
 have e := List.all_eq_true.1 Il (n - 1) (List.mem_range.2 (by omega))
 rw [decide_eq_true_eq, show n - 1 + 1 = n by omega, show 31 - (n - 1) = 32 - n by omega] at e
 unfold G.aa rr
 rw [e, bg (by omega), show (32 : Int) - ((32 - n : Nat) : Int) = (n : Int) by omega, qz (by omega) (by omega), bg (by omega)]
 simp only [Option.bind_some]
 rw [Lb x (by omega), yL x (by omega), Jm, BitVec.or_comm]
theorem jH (x : BitVec 32) {n : Nat} (h : 0 < n ∧ n < 32) : G.aG (T x) (n : Int) = some (T (rr x n)) := by
 unfold G.aG rr
 rw [bg (by omega), show (32 : Int) - (n : Int) = ((32 - n : Nat) : Int) by omega, eK (by omega) (by omega), bg (by omega)]
 simp only [Option.bind_some]
 rw [Lb x (by omega), yL x (by omega), Jm]
def mI (b : List UInt8) (i : Nat) : Int := tK .u32 (tK .u32 (tK .u32 (iC .u32 ((b.getD (4 * i) 0).toNat : Int) 24) (iC .u32 ((b.getD (4 * i + 1) 0).toNat : Int) 16)) (iC .u32 ((b.getD (4 * i + 2) 0).toNat : Int) 8)) ((b.getD (4 * i + 3) 0).toNat : Int)
def mB (b : List UInt8) (i : Nat) : BitVec 32 := BitVec.ofInt 32 (mI b i)
theorem NJ (x : Int) : T (BitVec.ofInt 32 (IntKind.u32.wrap x)) = IntKind.u32.wrap x := by
 have e : IntKind.u32.wrap x = ((x % 4294967296).toNat : Int) := by simp [IntKind.wrap, IntKind.bits, IntKind.signed]; omega
 rw [e]; unfold T; rw [BitVec.ofInt_natCast, BitVec.toNat_ofNat]; congr 1; omega
theorem OE (b : List UInt8) (i : Nat) : mI b i = T (mB b i) := by unfold mB mI; exact (NJ _).symm
def QE (x : BitVec 32) : BitVec 32 := rr x 7 ^^^ rr x 18 ^^^ x >>> 3
def QF (x : BitVec 32) : BitVec 32 := rr x 17 ^^^ rr x 19 ^^^ x >>> 10
def Wd (m : Nat → BitVec 32) (t : Nat) : BitVec 32 := if t < 16 then m t else QF (Wd m (t - 2)) + Wd m (t - 7) + QE (Wd m (t - 15)) + Wd m (t - 16)
termination_by t
theorem Lf {m : Nat → BitVec 32} {t : Nat} (h : t < 16) : Wd m t = m t := by rw [Wd, if_pos h]
theorem Ld {m : Nat → BitVec 32} {t : Nat} (h : 16 ≤ t) : Wd m t = QF (Wd m (t - 2)) + Wd m (t - 7) + QE (Wd m (t - 15)) + Wd m (t - 16) := by rw [Wd, if_neg (by omega)]
def t1 (v : Nat → BitVec 32) (k w : BitVec 32) : BitVec 32 := v 7 + (rr (v 4) 6 ^^^ rr (v 4) 11 ^^^ rr (v 4) 25) + ((v 4 &&& v 5) ^^^ (~~~(v 4) &&& v 6)) + k + w
def t2 (v : Nat → BitVec 32) : BitVec 32 := (rr (v 0) 2 ^^^ rr (v 0) 13 ^^^ rr (v 0) 22) + ((v 0 &&& v 1) ^^^ (v 0 &&& v 2) ^^^ (v 1 &&& v 2))
def step (v : Nat → BitVec 32) (k w : BitVec 32) : Nat → BitVec 32
 | 0 => t1 v k w + t2 v
 | 4 => v 3 + t1 v k w
 | i + 1 => v i
def Kr (K : Nat → BitVec 32) (m : Nat → BitVec 32) (s : Nat → BitVec 32) : Nat → (Nat → BitVec 32)
 | 0 => s
 | t + 1 => step (Kr K m s t) (K t) (Wd m t)
theorem Oc (e f g : BitVec 32) : g ^^^ (e &&& (f ^^^ g)) = (e &&& f) ^^^ (~~~e &&& g) := by
 ext i; simp only [BitVec.getElem_xor, BitVec.getElem_and, BitVec.getElem_not]
 cases e[i] <;> cases f[i] <;> cases g[i] <;> rfl
theorem Mv (a b c : BitVec 32) : (a &&& b) ||| (c &&& (a ||| b)) = (a &&& b) ^^^ (a &&& c) ^^^ (b &&& c) := by
 ext i; simp only [BitVec.getElem_xor, BitVec.getElem_and, BitVec.getElem_or]
 cases a[i] <;> cases b[i] <;> cases c[i] <;> rfl
theorem N9 (b : List UInt8) (h : 64 ≤ b.length) : ∃ w, Iter (G.cA b) ((0 : Int), (fun _ => 0)) = some w ∧ ∀ i, i < 16 → w i = T (mB b i) := by
 obtain ⟨r, hr, hq⟩ := bP (f := G.cA b) (fun m s => ∃ i : Nat, s.1 = (i : Int) ∧ i ≤ 16 ∧ m = 16 - i ∧ ∀ j, j < i → s.2 j = T (mB b j)) (fun w => ∀ i, i < 16 → w i = T (mB b i)) (by
  rintro m ⟨_, w⟩ ⟨i, hi, h16, rfl, hw⟩
  simp only at hi hw; subst hi
  unfold G.cA
  by_cases hlt : i < 16
  · left
    rw [if_pos (by simp only; omega)]
    simp only [wr (k := 4 * i) (show (4 : Int) * (i : Int) = ((4 * i : Nat) : Int) by omega) (by omega)]
    rw [wr (k := 4 * i + 1) (by omega) (by omega), wr (k := 4 * i + 2) (by omega) (by omega), wr (k := 4 * i + 3) (by omega) (by omega), bn 0 (by omega), bn 0 (by omega), bn 0 (by omega), bn 0 (by omega)]
    simp only [Option.bind_some]
    rw [bg (by omega), wr (k := i + 1) (by omega) (by omega)]
    refine ⟨16 - (i + 1), _, rfl, by omega, i + 1, rfl, by omega, rfl, fun j hj => ?_⟩
    show ah w (i : Int) (mI b i) j = _
    unfold ah
    by_cases e : j = i
    · subst e; rw [if_pos rfl, OE]
    · rw [if_neg (by omega)]; exact hw j (by omega)
  · right
    rw [if_neg (by simp only; omega)]
    exact ⟨_, rfl, fun j hj => hw j (by omega)⟩) 16 ((0 : Int), (fun _ => 0)) ⟨0, rfl, by omega, rfl, fun j hj => by omega⟩
 exact ⟨r, hr, hq⟩
theorem Js : ((List.range 100).all fun i => decide (aR .i64 (i : Int) 15 = ((i % 16 : Nat) : Int))) = true := by kernel_rfl
theorem N8 {i : Nat} (h : i < 100) : aR .i64 (i : Int) 15 = ((i % 16 : Nat) : Int) := of_decide_eq_true (List.all_eq_true.1 Js i (List.mem_range.2 h))
def Rg (m : Nat → BitVec 32) (t : Nat) (w : Nat → Int) : Prop := ∀ j, j < max t 16 → max t 16 ≤ j + 16 → w (j % 16) = T (Wd m j)
theorem Hl {α : Type} (f : Nat → α) (n : Nat) : aD f (n : Int) = f n := by unfold aD; simp
noncomputable def vU (t : Int) (w : Nat → Int) : Option (Nat → Int) :=
 if t ≥ (16 : Int) then
  (dZ (0 ≤ (aR .i64 (IntKind.i64.wrap (t + (1 : Int))) (15 : Int)) ∧ (aR .i64 (IntKind.i64.wrap (t + (1 : Int))) (15 : Int)) < 16)).bind fun y13 =>
  (dZ (0 ≤ (aR .i64 (IntKind.i64.wrap (t + (14 : Int))) (15 : Int)) ∧ (aR .i64 (IntKind.i64.wrap (t + (14 : Int))) (15 : Int)) < 16)).bind fun y14 =>
  (G.aa (aD w (aR .i64 (IntKind.i64.wrap (t + (1 : Int))) (15 : Int))) (-7 : Int)).bind fun y15 =>
  (G.aa (aD w (aR .i64 (IntKind.i64.wrap (t + (1 : Int))) (15 : Int))) (-18 : Int)).bind fun y16 =>
  (G.aa (aD w (aR .i64 (IntKind.i64.wrap (t + (14 : Int))) (15 : Int))) (-17 : Int)).bind fun y17 =>
  (G.aa (aD w (aR .i64 (IntKind.i64.wrap (t + (14 : Int))) (15 : Int))) (-19 : Int)).bind fun y18 =>
  (dZ (0 ≤ (aR .i64 t (15 : Int)) ∧ (aR .i64 t (15 : Int)) < 16)).bind fun y19 =>
  (dZ (0 ≤ (aR .i64 (IntKind.i64.wrap (t + (9 : Int))) (15 : Int)) ∧ (aR .i64 (IntKind.i64.wrap (t + (9 : Int))) (15 : Int)) < 16)).bind fun y20 =>
  (dZ (0 ≤ (aR .i64 t (15 : Int)) ∧ (aR .i64 t (15 : Int)) < 16)).bind fun y21 =>
  some (ah w (aR .i64 t (15 : Int)) (IntKind.u32.wrap ((aD w (aR .i64 t (15 : Int))) + (IntKind.u32.wrap ((IntKind.u32.wrap ((cp .u32 (cp .u32 y15 y16) (bN .u32 (aD w (aR .i64 (IntKind.i64.wrap (t + (1 : Int))) (15 : Int))) (3 : Int))) + (aD w (aR .i64 (IntKind.i64.wrap (t + (9 : Int))) (15 : Int))))) + (cp .u32 (cp .u32 y17 y18) (bN .u32 (aD w (aR .i64 (IntKind.i64.wrap (t + (14 : Int))) (15 : Int))) (10 : Int))))))))
 else
  some w
noncomputable def rest (y8 : Nat → Int) (t : Int) (w v : Nat → Int) : Option ((Int × (Nat → Int) × (Nat → Int)) ⊕ (Nat → Int)) :=
 (G.aa (v 4) (-6 : Int)).bind fun y22 =>
 (G.aa (v 4) (-11 : Int)).bind fun y23 =>
 (G.aa (v 4) (-25 : Int)).bind fun y24 =>
 (dZ (0 ≤ (aR .i64 t (15 : Int)) ∧ (aR .i64 t (15 : Int)) < 16)).bind fun y25 =>
 (G.aa (v 0) (-2 : Int)).bind fun y26 =>
 (G.aa (v 0) (-13 : Int)).bind fun y27 =>
 (G.aa (v 0) (-22 : Int)).bind fun y28 =>
 (dZ (0 ≤ (1 : Int) ∧ (1 : Int) < 8 ∧ (1 : Int) ≤ (8 : Int) ∧ (8 : Int) ≤ 8)).bind fun y29 =>
 (dZ (0 ≤ (0 : Int) ∧ (0 : Int) < 8 ∧ (0 : Int) ≤ (7 : Int) ∧ (7 : Int) ≤ 8)).bind fun y30 =>
 some (.inl ((IntKind.i64.wrap (t + (1 : Int))), w, (ah (ah (nG v (1 : Int).toNat (0 : Int).toNat (dr ((8 : Int) - (1 : Int)) ((7 : Int) - (0 : Int))).toNat) 4 (IntKind.u32.wrap (((nG v (1 : Int).toNat (0 : Int).toNat (dr ((8 : Int) - (1 : Int)) ((7 : Int) - (0 : Int))).toNat) 4) + (IntKind.u32.wrap ((IntKind.u32.wrap ((IntKind.u32.wrap ((IntKind.u32.wrap ((v 7) + (cp .u32 (cp .u32 y22 y23) y24))) + (cp .u32 (v 6) (aR .u32 (v 4) (cp .u32 (v 5) (v 6)))))) + (aD y8 t))) + (aD w (aR .i64 t (15 : Int)))))))) 0 (IntKind.u32.wrap ((IntKind.u32.wrap ((IntKind.u32.wrap ((IntKind.u32.wrap ((IntKind.u32.wrap ((v 7) + (cp .u32 (cp .u32 y22 y23) y24))) + (cp .u32 (v 6) (aR .u32 (v 4) (cp .u32 (v 5) (v 6)))))) + (aD y8 t))) + (aD w (aR .i64 t (15 : Int))))) + (IntKind.u32.wrap ((cp .u32 (cp .u32 y26 y27) y28) + (tK .u32 (aR .u32 (v 0) (v 1)) (aR .u32 (v 2) (tK .u32 (v 0) (v 1)))))))))))
theorem OD (y : Nat → Int) (t : Int) (w v : Nat → Int) : G.cB y (t, w, v) = if t < 64 then (dZ (0 ≤ t ∧ t < 64)).bind fun _ => (vU t w).bind fun w' => rest y t w' v else some (.inr v) := rfl
theorem NG {m : Nat → BitVec 32} {w : Nat → Int} {t : Nat} (hlt : t < 64) (hw : Rg m t w) : ∃ w', vU (t : Int) w = some w' ∧ Rg m (t + 1) w' ∧ w' (t % 16) = T (Wd m t) := by
 unfold vU
 simp only [wr (k := t + 1) (show (t : Int) + 1 = ((t + 1 : Nat) : Int) by omega) (by omega), wr (k := t + 14) (show (t : Int) + 14 = ((t + 14 : Nat) : Int) by omega) (by omega), wr (k := t + 9) (show (t : Int) + 9 = ((t + 9 : Nat) : Int) by omega) (by omega)]
 simp only [N8 (i := t) (by omega), N8 (i := t + 1) (by omega), N8 (i := t + 14) (by omega), N8 (i := t + 9) (by omega), Hl]
 by_cases h16 : 16 ≤ t
 · have x1 := hw (t - 15) (by omega) (by omega); have x2 := hw (t - 2) (by omega) (by omega); have x7 := hw (t - 7) (by omega) (by omega); have x16 := hw (t - 16) (by omega) (by omega)
   rw [show (t - 15) % 16 = (t + 1) % 16 by omega] at x1
   rw [show (t - 2) % 16 = (t + 14) % 16 by omega] at x2
   rw [show (t - 7) % 16 = (t + 9) % 16 by omega] at x7
   rw [show (t - 16) % 16 = t % 16 by omega] at x16
   rw [if_pos (by omega), x1, x2, x7, x16, show (-7 : Int) = -((7 : Nat) : Int) from rfl, show (-18 : Int) = -((18 : Nat) : Int) from rfl, show (-17 : Int) = -((17 : Nat) : Int) from rfl, show (-19 : Int) = -((19 : Nat) : Int) from rfl, jG _ (by decide), jG _ (by decide), jG _ (by decide), jG _ (by decide)]
   rw [bg (by omega), bg (by omega), bg (by omega), bg (by omega)]
   simp only [Option.bind_some, show bN .u32 (T (Wd m (t - 15))) 3 = T (Wd m (t - 15) >>> 3) from yL _ (n := 3) (by decide), show bN .u32 (T (Wd m (t - 2))) 10 = T (Wd m (t - 2) >>> 10) from yL _ (n := 10) (by decide), Bc, wB]
   have e3 : Wd m (t - 16) + ((rr (Wd m (t - 15)) 7 ^^^ rr (Wd m (t - 15)) 18 ^^^ Wd m (t - 15) >>> 3) + Wd m (t - 7) + (rr (Wd m (t - 2)) 17 ^^^ rr (Wd m (t - 2)) 19 ^^^ Wd m (t - 2) >>> 10)) = Wd m t := by
    rw [Ld h16]; unfold QE QF; ac_rfl
   rw [e3]
   refine ⟨_, rfl, fun j hj hj' => ?_, ?_⟩
   · unfold ah
     by_cases e : j = t
     · subst e; rw [if_pos rfl]
     · rw [if_neg (by omega)]; exact hw j (by omega) (by omega)
   · unfold ah; rw [if_pos rfl]
 · rw [if_neg (by omega)]
   exact ⟨w, rfl, fun j hj hj' => hw j (by omega) (by omega), hw t (by omega) (by omega)⟩
theorem Ku {K m V : Nat → BitVec 32} {y w v : Nat → Int} {t : Nat} (hlt : t < 64) (hy : y t = T (K t)) (hw : w (t % 16) = T (Wd m t)) (hv : ∀ i, i < 8 → v i = T (V i)) :
 ∃ v', rest y (t : Int) w v = some (.inl (((t + 1 : Nat) : Int), w, v')) ∧ ∀ i, i < 8 → v' i = T (step V (K t) (Wd m t) i) := by
 have hv0 := hv 0 (by decide); have hv1 := hv 1 (by decide); have hv2 := hv 2 (by decide); have hv3 := hv 3 (by decide); have hv4 := hv 4 (by decide); have hv5 := hv 5 (by decide); have hv6 := hv 6 (by decide); have hv7 := hv 7 (by decide)
 unfold rest
 simp only [wr (k := t + 1) (show (t : Int) + 1 = ((t + 1 : Nat) : Int) by omega) (by omega), N8 (i := t) (by omega), Hl]
 rw [hv4, hv0, show (-6 : Int) = -((6 : Nat) : Int) from rfl, show (-11 : Int) = -((11 : Nat) : Int) from rfl, show (-25 : Int) = -((25 : Nat) : Int) from rfl, show (-2 : Int) = -((2 : Nat) : Int) from rfl, show (-13 : Int) = -((13 : Nat) : Int) from rfl, show (-22 : Int) = -((22 : Nat) : Int) from rfl]
 rw [jG _ (by decide), jG _ (by decide), jG _ (by decide), jG _ (by decide), jG _ (by decide), jG _ (by decide), bg (by omega), bg (by decide), bg (by decide)]
 simp only [Option.bind_some, hv1, hv2, hv5, hv6, hv7, hy, hw, Bc, K9, Jm, wB]
 refine ⟨_, rfl, fun i hi => ?_⟩
 have e1 : V 7 + (rr (V 4) 6 ^^^ rr (V 4) 11 ^^^ rr (V 4) 25) + (V 6 ^^^ (V 4 &&& (V 5 ^^^ V 6))) + K t + Wd m t = t1 V (K t) (Wd m t) := by unfold t1; rw [Oc]
 have e2 : (rr (V 0) 2 ^^^ rr (V 0) 13 ^^^ rr (V 0) 22) + ((V 0 &&& V 1) ||| (V 2 &&& (V 0 ||| V 1))) = t2 V := by unfold t2; rw [Mv]
 rw [e1, e2]
 show ah (ah (nG v 1 0 7) 4 (IntKind.u32.wrap (v 3 + _))) 0 _ i = T (step V (K t) (Wd m t) i)
 rw [hv3, wB]
 match i, hi with
 | 0, _ => rfl
 | 1, _ => exact hv0
 | 2, _ => exact hv1
 | 3, _ => exact hv2
 | 4, _ => rfl
 | 5, _ => exact hv4
 | 6, _ => exact hv5
 | 7, _ => exact hv6
theorem Qj {K m s : Nat → BitVec 32} {y w v : Nat → Int} (hy : ∀ t, t < 64 → y t = T (K t)) (hw : Rg m 0 w) (hv : ∀ i, i < 8 → v i = T (s i)) :
 ∃ r, Iter (G.cB y) ((0 : Int), w, v) = some r ∧ ∀ i, i < 8 → r i = T (Kr K m s 64 i) := by
 refine bP (f := G.cB y) (fun n st => ∃ t : Nat, st.1 = (t : Int) ∧ t ≤ 64 ∧ n = 64 - t ∧ Rg m t st.2.1 ∧ ∀ i, i < 8 → st.2.2 i = T (Kr K m s t i)) (fun r => ∀ i, i < 8 → r i = T (Kr K m s 64 i)) (by
  rintro n ⟨_, w, v⟩ ⟨t, ht, h64, rfl, hw, hv⟩
  simp only at ht hw hv; subst ht
  rw [OD]
  by_cases hlt : t < 64
  · left
    obtain ⟨w', h1, h2, h3⟩ := NG hlt hw
    obtain ⟨v', h4, h5⟩ := Ku hlt (hy t hlt) h3 hv
    rw [if_pos (by omega), bg (by omega), h1]
    simp only [Option.bind_some]
    rw [h4]
    exact ⟨64 - (t + 1), _, rfl, by omega, t + 1, rfl, by omega, rfl, h2, h5⟩
  · right
    rw [if_neg (by omega)]
    obtain rfl : t = 64 := by omega
    exact ⟨_, rfl, hv⟩) 64 _ ⟨0, rfl, by omega, rfl, hw, hv⟩
def comp (K : Nat → BitVec 32) (b : List UInt8) (s : Nat → BitVec 32) (i : Nat) : BitVec 32 := s i + Kr K (mB b) s 64 i
theorem Bi {v w : Nat → Int} {s r : Nat → BitVec 32} (hw : ∀ i, i < 8 → w i = T (s i)) (hv : ∀ i, i < 8 → v i = T (r i)) : ∀ (k : Nat), k ≤ 8 → ∀ i, i < 8 → Bh v w k i = T (if i < k then s i + r i else s i)
 | 0, _, i, hi => by rw [if_neg (by omega)]; exact hw i hi
 | k + 1, hk, i, hi => by
   have ih := Bi hw hv k (by omega)
   unfold Bh
   rw [Hl, Hl, ih k (by omega), if_neg (by omega), hv k (by omega), wB]
   unfold ah
   by_cases e : i = k
   · subst e; rw [if_pos rfl, if_pos (by omega)]
   · rw [if_neg (by omega), ih i hi]
     by_cases h : i < k
     · rw [if_pos h, if_pos (by omega)]
     · rw [if_neg h, if_neg (by omega)]
theorem Ff {K : Nat → BitVec 32} (hK : ∀ y, G.iY = some y → ∀ t, t < 64 → y t = T (K t)) {b : List UInt8} (h : 64 ≤ b.length) {w : Nat → Int} {s : Nat → BitVec 32} (hw : ∀ i, i < 8 → w i = T (s i)) : ∀ i, i < 8 → CQ b w i = T (comp K b s i) := by
 obtain ⟨v1, h1, m1⟩ := N9 b h
 obtain ⟨y, hy⟩ : ∃ y, G.iY = some y := ⟨_, rfl⟩
 obtain ⟨v2, h2, m2⟩ := Qj (K := K) (m := mB b) (hK y hy) (w := v1) (fun j hj hj' => by rw [Lf (by omega), Nat.mod_eq_of_lt (by omega)]; exact m1 j (by omega)) hw
 have e : G.dt b w [] 0 = some (Bh v2 w 8, [], 0) := by
  unfold G.dt
  rw [h1, hy]
  simp only [Option.bind_some]
  rw [h2]
  exact yQ _ _ _ _
 rw [Br h] at e
 rw [(Prod.mk.inj (Option.some.inj e)).1]
 intro i hi
 rw [Bi hw m2 8 (by decide) i hi, if_pos hi]; rfl
end G
end Go.Proofs.YtekpafdhgkocaaaGreat
