/- Part of what the laws need: plain words, the walker and its laws, the program's functions. -/
import Derived.Test.YthnhjibbkleneaaZPH2
import Derived.Test.YthnhjibbkleneaaZPH6
namespace Go.Proofs.Ythnhjibbkleneaa
open G
namespace G
def T (x : BitVec 32) : Int := (x.toNat : Int)
theorem wrap32 (n : Nat) : IntKind.u32.wrap (n : Int) = T (BitVec.ofNat 32 n) := by
  unfold T; rw [BitVec.toNat_ofNat]; simp [IntKind.wrap, IntKind.bits, IntKind.signed]
theorem ofInt_T (x : BitVec 32) : BitVec.ofInt 32 (T x) = x := by unfold T; rw [BitVec.ofInt_natCast, BitVec.ofNat_toNat, BitVec.setWidth_eq]
theorem T_self (x : BitVec 32) : IntKind.u32.wrap (x.toNat : Int) = T x := by rw [wrap32, BitVec.ofNat_toNat, BitVec.setWidth_eq]
theorem T_add (a b : BitVec 32) : IntKind.u32.wrap (T a + T b) = T (a + b) := by
  unfold T; rw [show (a.toNat : Int) + (b.toNat : Int) = ((a.toNat + b.toNat : Nat) : Int) by omega, wrap32]
  unfold T; rw [BitVec.toNat_ofNat, BitVec.toNat_add]
theorem T_xor (a b : BitVec 32) : bxor .u32 (T a) (T b) = T (a ^^^ b) := by
  show IntKind.u32.wrap (((BitVec.ofInt 32 (T a) ^^^ BitVec.ofInt 32 (T b)).toNat : Nat) : Int) = _
  rw [ofInt_T, ofInt_T, T_self]
theorem T_and (a b : BitVec 32) : band .u32 (T a) (T b) = T (a &&& b) := by
  show IntKind.u32.wrap (((BitVec.ofInt 32 (T a) &&& BitVec.ofInt 32 (T b)).toNat : Nat) : Int) = _
  rw [ofInt_T, ofInt_T, T_self]
theorem T_or (a b : BitVec 32) : bor .u32 (T a) (T b) = T (a ||| b) := by
  show IntKind.u32.wrap (((BitVec.ofInt 32 (T a) ||| BitVec.ofInt 32 (T b)).toNat : Nat) : Int) = _
  rw [ofInt_T, ofInt_T, T_self]
theorem T_not (x : BitVec 32) : bxor .u32 4294967295 (T x) = T (~~~x) := by
  rw [show (4294967295 : Int) = T (BitVec.allOnes 32) by rfl, T_xor, BitVec.allOnes_xor]
theorem T_shr (x : BitVec 32) {n : Nat} (h : n ≤ 32) : ishr .u32 (T x) (n : Int) = T (x >>> n) := by
  unfold ishr
  rw [show min (n : Int).toNat IntKind.u32.bits = n by simp [IntKind.bits]; omega, Int.fdiv_eq_ediv_of_nonneg _ (Int.le_of_lt (Int.pow_pos (by decide)))]
  unfold T
  rw [BitVec.toNat_ushiftRight, Nat.shiftRight_eq_div_pow]
  simp
theorem T_shl (x : BitVec 32) {n : Nat} (h : n ≤ 32) : ishl .u32 (T x) (n : Int) = T (x <<< n) := by
  unfold ishl
  rw [show min (n : Int).toNat IntKind.u32.bits = n by simp [IntKind.bits]; omega]
  unfold T
  rw [BitVec.toNat_shiftLeft, Nat.shiftLeft_eq, show (x.toNat : Int) * 2 ^ n = ((x.toNat * 2 ^ n : Nat) : Int) by simp, wrap32]
  unfold T; rw [BitVec.toNat_ofNat]
def rr (x : BitVec 32) (n : Nat) : BitVec 32 := x >>> n ||| x <<< (32 - n)
theorem rot_bits : ((List.range 31).all fun i => decide (band .u64 (IntKind.u64.wrap (-((i + 1 : Nat) : Int))) 31 = ((31 - i : Nat) : Int))) = true := by kernel_rfl
theorem rotl_of (x : BitVec 32) {n : Nat} (h : 0 < n ∧ n < 32) : G.math_bits_RotateLeft32 (T x) (-(n : Int)) = some (T (rr x n)) := by
  have e := List.all_eq_true.1 rot_bits (n - 1) (List.mem_range.2 (by omega))
  rw [decide_eq_true_eq, show n - 1 + 1 = n by omega, show 31 - (n - 1) = 32 - n by omega] at e
  unfold G.math_bits_RotateLeft32 rr
  rw [e, chk_of (by omega), show (32 : Int) - ((32 - n : Nat) : Int) = (n : Int) by omega, wu64 (by omega) (by omega), chk_of (by omega)]
  simp only [Option.bind_some]
  rw [T_shl x (by omega), T_shr x (by omega), T_or, BitVec.or_comm]
theorem rotr_of (x : BitVec 32) {n : Nat} (h : 0 < n ∧ n < 32) : G.graftref02_rotate (T x) (n : Int) = some (T (rr x n)) := by
  unfold G.graftref02_rotate rr
  rw [chk_of (by omega), show (32 : Int) - (n : Int) = ((32 - n : Nat) : Int) by omega, w64 (by omega) (by omega), chk_of (by omega)]
  simp only [Option.bind_some]
  rw [T_shl x (by omega), T_shr x (by omega), T_or]
def mI (b : List UInt8) (i : Nat) : Int := bor .u32 (bor .u32 (bor .u32 (ishl .u32 ((b.getD (4 * i) 0).toNat : Int) 24) (ishl .u32 ((b.getD (4 * i + 1) 0).toNat : Int) 16)) (ishl .u32 ((b.getD (4 * i + 2) 0).toNat : Int) 8)) ((b.getD (4 * i + 3) 0).toNat : Int)
def mB (b : List UInt8) (i : Nat) : BitVec 32 := BitVec.ofInt 32 (mI b i)
theorem wrap_T (x : Int) : T (BitVec.ofInt 32 (IntKind.u32.wrap x)) = IntKind.u32.wrap x := by
  have e : IntKind.u32.wrap x = ((x % 4294967296).toNat : Int) := by simp [IntKind.wrap, IntKind.bits, IntKind.signed]; omega
  rw [e]; unfold T; rw [BitVec.ofInt_natCast, BitVec.toNat_ofNat]; congr 1; omega
theorem mB_T (b : List UInt8) (i : Nat) : mI b i = T (mB b i) := by unfold mB mI; exact (wrap_T _).symm
def sg0 (x : BitVec 32) : BitVec 32 := rr x 7 ^^^ rr x 18 ^^^ x >>> 3
def sg1 (x : BitVec 32) : BitVec 32 := rr x 17 ^^^ rr x 19 ^^^ x >>> 10
def Wd (m : Nat → BitVec 32) (t : Nat) : BitVec 32 := if t < 16 then m t else sg1 (Wd m (t - 2)) + Wd m (t - 7) + sg0 (Wd m (t - 15)) + Wd m (t - 16)
termination_by t
theorem Wd_lt {m : Nat → BitVec 32} {t : Nat} (h : t < 16) : Wd m t = m t := by rw [Wd, if_pos h]
theorem Wd_ge {m : Nat → BitVec 32} {t : Nat} (h : 16 ≤ t) : Wd m t = sg1 (Wd m (t - 2)) + Wd m (t - 7) + sg0 (Wd m (t - 15)) + Wd m (t - 16) := by rw [Wd, if_neg (by omega)]
def t1 (v : Nat → BitVec 32) (k w : BitVec 32) : BitVec 32 := v 7 + (rr (v 4) 6 ^^^ rr (v 4) 11 ^^^ rr (v 4) 25) + ((v 4 &&& v 5) ^^^ (~~~(v 4) &&& v 6)) + k + w
def t2 (v : Nat → BitVec 32) : BitVec 32 := (rr (v 0) 2 ^^^ rr (v 0) 13 ^^^ rr (v 0) 22) + ((v 0 &&& v 1) ^^^ (v 0 &&& v 2) ^^^ (v 1 &&& v 2))
def step (v : Nat → BitVec 32) (k w : BitVec 32) : Nat → BitVec 32
  | 0 => t1 v k w + t2 v
  | 4 => v 3 + t1 v k w
  | i + 1 => v i
def rds (K : Nat → BitVec 32) (m : Nat → BitVec 32) (s : Nat → BitVec 32) : Nat → (Nat → BitVec 32)
  | 0 => s
  | t + 1 => step (rds K m s t) (K t) (Wd m t)
theorem ch_eq (e f g : BitVec 32) : g ^^^ (e &&& (f ^^^ g)) = (e &&& f) ^^^ (~~~e &&& g) := by
  ext i; simp only [BitVec.getElem_xor, BitVec.getElem_and, BitVec.getElem_not]
  cases e[i] <;> cases f[i] <;> cases g[i] <;> rfl
theorem maj_eq (a b c : BitVec 32) : (a &&& b) ||| (c &&& (a ||| b)) = (a &&& b) ^^^ (a &&& c) ^^^ (b &&& c) := by
  ext i; simp only [BitVec.getElem_xor, BitVec.getElem_and, BitVec.getElem_or]
  cases a[i] <;> cases b[i] <;> cases c[i] <;> rfl
theorem blk1 (b : List UInt8) (h : 64 ≤ b.length) : ∃ w, Iter (G.sha_state_block_l1 b) ((0 : Int), (fun _ => 0)) = some w ∧ ∀ i, i < 16 → w i = T (mB b i) := by
  obtain ⟨r, hr, hq⟩ := Iter_total (f := G.sha_state_block_l1 b) (fun m s => ∃ i : Nat, s.1 = (i : Int) ∧ i ≤ 16 ∧ m = 16 - i ∧ ∀ j, j < i → s.2 j = T (mB b j)) (fun w => ∀ i, i < 16 → w i = T (mB b i)) (by
    rintro m ⟨_, w⟩ ⟨i, hi, h16, rfl, hw⟩
    simp only at hi hw; subst hi
    unfold G.sha_state_block_l1
    by_cases hlt : i < 16
    · left
      rw [if_pos (by simp only; omega)]
      simp only [wr (k := 4 * i) (show (4 : Int) * (i : Int) = ((4 * i : Nat) : Int) by omega) (by omega)]
      rw [wr (k := 4 * i + 1) (by omega) (by omega), wr (k := 4 * i + 2) (by omega) (by omega), wr (k := 4 * i + 3) (by omega) (by omega), idx_getD 0 (by omega), idx_getD 0 (by omega), idx_getD 0 (by omega), idx_getD 0 (by omega)]
      simp only [Option.bind_some]
      rw [chk_of (by omega), wr (k := i + 1) (by omega) (by omega)]
      refine ⟨16 - (i + 1), _, rfl, by omega, i + 1, rfl, by omega, rfl, fun j hj => ?_⟩
      show setArr w (i : Int) (mI b i) j = _
      unfold setArr
      by_cases e : j = i
      · subst e; rw [if_pos rfl, mB_T]
      · rw [if_neg (by omega)]; exact hw j (by omega)
    · right
      rw [if_neg (by simp only; omega)]
      exact ⟨_, rfl, fun j hj => hw j (by omega)⟩) 16 ((0 : Int), (fun _ => 0)) ⟨0, rfl, by omega, rfl, fun j hj => by omega⟩
  exact ⟨r, hr, hq⟩
theorem band15v : ((List.range 100).all fun i => decide (band .i64 (i : Int) 15 = ((i % 16 : Nat) : Int))) = true := by kernel_rfl
theorem b15 {i : Nat} (h : i < 100) : band .i64 (i : Int) 15 = ((i % 16 : Nat) : Int) := of_decide_eq_true (List.all_eq_true.1 band15v i (List.mem_range.2 h))
def Rg (m : Nat → BitVec 32) (t : Nat) (w : Nat → Int) : Prop := ∀ j, j < max t 16 → max t 16 ≤ j + 16 → w (j % 16) = T (Wd m j)
theorem getN {α : Type} (f : Nat → α) (n : Nat) : getArr f (n : Int) = f n := by unfold getArr; simp
noncomputable def upd (t : Int) (w : Nat → Int) : Option (Nat → Int) :=
      if t ≥ (16 : Int) then
        (chk (0 ≤ (band .i64 (IntKind.i64.wrap (t + (1 : Int))) (15 : Int)) ∧ (band .i64 (IntKind.i64.wrap (t + (1 : Int))) (15 : Int)) < 16)).bind fun y13 =>
        (chk (0 ≤ (band .i64 (IntKind.i64.wrap (t + (14 : Int))) (15 : Int)) ∧ (band .i64 (IntKind.i64.wrap (t + (14 : Int))) (15 : Int)) < 16)).bind fun y14 =>
        (G.math_bits_RotateLeft32 (getArr w (band .i64 (IntKind.i64.wrap (t + (1 : Int))) (15 : Int))) (-7 : Int)).bind fun y15 =>
        (G.math_bits_RotateLeft32 (getArr w (band .i64 (IntKind.i64.wrap (t + (1 : Int))) (15 : Int))) (-18 : Int)).bind fun y16 =>
        (G.math_bits_RotateLeft32 (getArr w (band .i64 (IntKind.i64.wrap (t + (14 : Int))) (15 : Int))) (-17 : Int)).bind fun y17 =>
        (G.math_bits_RotateLeft32 (getArr w (band .i64 (IntKind.i64.wrap (t + (14 : Int))) (15 : Int))) (-19 : Int)).bind fun y18 =>
        (chk (0 ≤ (band .i64 t (15 : Int)) ∧ (band .i64 t (15 : Int)) < 16)).bind fun y19 =>
        (chk (0 ≤ (band .i64 (IntKind.i64.wrap (t + (9 : Int))) (15 : Int)) ∧ (band .i64 (IntKind.i64.wrap (t + (9 : Int))) (15 : Int)) < 16)).bind fun y20 =>
        (chk (0 ≤ (band .i64 t (15 : Int)) ∧ (band .i64 t (15 : Int)) < 16)).bind fun y21 =>
        some (setArr w (band .i64 t (15 : Int)) (IntKind.u32.wrap ((getArr w (band .i64 t (15 : Int))) + (IntKind.u32.wrap ((IntKind.u32.wrap ((bxor .u32 (bxor .u32 y15 y16) (ishr .u32 (getArr w (band .i64 (IntKind.i64.wrap (t + (1 : Int))) (15 : Int))) (3 : Int))) + (getArr w (band .i64 (IntKind.i64.wrap (t + (9 : Int))) (15 : Int))))) + (bxor .u32 (bxor .u32 y17 y18) (ishr .u32 (getArr w (band .i64 (IntKind.i64.wrap (t + (14 : Int))) (15 : Int))) (10 : Int))))))))
      else
        some w
noncomputable def rest (y8 : Nat → Int) (t : Int) (w v : Nat → Int) : Option ((Int × (Nat → Int) × (Nat → Int)) ⊕ (Nat → Int)) :=
    (G.math_bits_RotateLeft32 (v 4) (-6 : Int)).bind fun y22 =>
    (G.math_bits_RotateLeft32 (v 4) (-11 : Int)).bind fun y23 =>
    (G.math_bits_RotateLeft32 (v 4) (-25 : Int)).bind fun y24 =>
    (chk (0 ≤ (band .i64 t (15 : Int)) ∧ (band .i64 t (15 : Int)) < 16)).bind fun y25 =>
    (G.math_bits_RotateLeft32 (v 0) (-2 : Int)).bind fun y26 =>
    (G.math_bits_RotateLeft32 (v 0) (-13 : Int)).bind fun y27 =>
    (G.math_bits_RotateLeft32 (v 0) (-22 : Int)).bind fun y28 =>
    (chk (0 ≤ (1 : Int) ∧ (1 : Int) < 8 ∧ (1 : Int) ≤ (8 : Int) ∧ (8 : Int) ≤ 8)).bind fun y29 =>
    (chk (0 ≤ (0 : Int) ∧ (0 : Int) < 8 ∧ (0 : Int) ≤ (7 : Int) ∧ (7 : Int) ≤ 8)).bind fun y30 =>
    some (.inl ((IntKind.i64.wrap (t + (1 : Int))), w, (setArr (setArr (mvArr v (1 : Int).toNat (0 : Int).toNat (imin ((8 : Int) - (1 : Int)) ((7 : Int) - (0 : Int))).toNat) 4 (IntKind.u32.wrap (((mvArr v (1 : Int).toNat (0 : Int).toNat (imin ((8 : Int) - (1 : Int)) ((7 : Int) - (0 : Int))).toNat) 4) + (IntKind.u32.wrap ((IntKind.u32.wrap ((IntKind.u32.wrap ((IntKind.u32.wrap ((v 7) + (bxor .u32 (bxor .u32 y22 y23) y24))) + (bxor .u32 (v 6) (band .u32 (v 4) (bxor .u32 (v 5) (v 6)))))) + (getArr y8 t))) + (getArr w (band .i64 t (15 : Int)))))))) 0 (IntKind.u32.wrap ((IntKind.u32.wrap ((IntKind.u32.wrap ((IntKind.u32.wrap ((IntKind.u32.wrap ((v 7) + (bxor .u32 (bxor .u32 y22 y23) y24))) + (bxor .u32 (v 6) (band .u32 (v 4) (bxor .u32 (v 5) (v 6)))))) + (getArr y8 t))) + (getArr w (band .i64 t (15 : Int))))) + (IntKind.u32.wrap ((bxor .u32 (bxor .u32 y26 y27) y28) + (bor .u32 (band .u32 (v 0) (v 1)) (band .u32 (v 2) (bor .u32 (v 0) (v 1)))))))))))
theorem l2_eq (y : Nat → Int) (t : Int) (w v : Nat → Int) : G.sha_state_block_l2 y (t, w, v) = if t < 64 then (chk (0 ≤ t ∧ t < 64)).bind fun _ => (upd t w).bind fun w' => rest y t w' v else some (.inr v) := rfl
theorem upd_of {m : Nat → BitVec 32} {w : Nat → Int} {t : Nat} (hlt : t < 64) (hw : Rg m t w) : ∃ w', upd (t : Int) w = some w' ∧ Rg m (t + 1) w' ∧ w' (t % 16) = T (Wd m t) := by
  unfold upd
  simp only [wr (k := t + 1) (show (t : Int) + 1 = ((t + 1 : Nat) : Int) by omega) (by omega), wr (k := t + 14) (show (t : Int) + 14 = ((t + 14 : Nat) : Int) by omega) (by omega), wr (k := t + 9) (show (t : Int) + 9 = ((t + 9 : Nat) : Int) by omega) (by omega)]
  simp only [b15 (i := t) (by omega), b15 (i := t + 1) (by omega), b15 (i := t + 14) (by omega), b15 (i := t + 9) (by omega), getN]
  by_cases h16 : 16 ≤ t
  · have x1 := hw (t - 15) (by omega) (by omega); have x2 := hw (t - 2) (by omega) (by omega); have x7 := hw (t - 7) (by omega) (by omega); have x16 := hw (t - 16) (by omega) (by omega)
    rw [show (t - 15) % 16 = (t + 1) % 16 by omega] at x1
    rw [show (t - 2) % 16 = (t + 14) % 16 by omega] at x2
    rw [show (t - 7) % 16 = (t + 9) % 16 by omega] at x7
    rw [show (t - 16) % 16 = t % 16 by omega] at x16
    rw [if_pos (by omega), x1, x2, x7, x16, show (-7 : Int) = -((7 : Nat) : Int) from rfl, show (-18 : Int) = -((18 : Nat) : Int) from rfl, show (-17 : Int) = -((17 : Nat) : Int) from rfl, show (-19 : Int) = -((19 : Nat) : Int) from rfl, rotl_of _ (by decide), rotl_of _ (by decide), rotl_of _ (by decide), rotl_of _ (by decide)]
    rw [chk_of (by omega), chk_of (by omega), chk_of (by omega), chk_of (by omega)]
    simp only [Option.bind_some, show ishr .u32 (T (Wd m (t - 15))) 3 = T (Wd m (t - 15) >>> 3) from T_shr _ (n := 3) (by decide), show ishr .u32 (T (Wd m (t - 2))) 10 = T (Wd m (t - 2) >>> 10) from T_shr _ (n := 10) (by decide), T_xor, T_add]
    have e3 : Wd m (t - 16) + ((rr (Wd m (t - 15)) 7 ^^^ rr (Wd m (t - 15)) 18 ^^^ Wd m (t - 15) >>> 3) + Wd m (t - 7) + (rr (Wd m (t - 2)) 17 ^^^ rr (Wd m (t - 2)) 19 ^^^ Wd m (t - 2) >>> 10)) = Wd m t := by
      rw [Wd_ge h16]; unfold sg0 sg1; ac_rfl
    rw [e3]
    refine ⟨_, rfl, fun j hj hj' => ?_, ?_⟩
    · unfold setArr
      by_cases e : j = t
      · subst e; rw [if_pos rfl]
      · rw [if_neg (by omega)]; exact hw j (by omega) (by omega)
    · unfold setArr; rw [if_pos rfl]
  · rw [if_neg (by omega)]
    exact ⟨w, rfl, fun j hj hj' => hw j (by omega) (by omega), hw t (by omega) (by omega)⟩
theorem rest_of {K m V : Nat → BitVec 32} {y w v : Nat → Int} {t : Nat} (hlt : t < 64) (hy : y t = T (K t)) (hw : w (t % 16) = T (Wd m t)) (hv : ∀ i, i < 8 → v i = T (V i)) :
    ∃ v', rest y (t : Int) w v = some (.inl (((t + 1 : Nat) : Int), w, v')) ∧ ∀ i, i < 8 → v' i = T (step V (K t) (Wd m t) i) := by
  have hv0 := hv 0 (by decide); have hv1 := hv 1 (by decide); have hv2 := hv 2 (by decide); have hv3 := hv 3 (by decide); have hv4 := hv 4 (by decide); have hv5 := hv 5 (by decide); have hv6 := hv 6 (by decide); have hv7 := hv 7 (by decide)
  unfold rest
  simp only [wr (k := t + 1) (show (t : Int) + 1 = ((t + 1 : Nat) : Int) by omega) (by omega), b15 (i := t) (by omega), getN]
  rw [hv4, hv0, show (-6 : Int) = -((6 : Nat) : Int) from rfl, show (-11 : Int) = -((11 : Nat) : Int) from rfl, show (-25 : Int) = -((25 : Nat) : Int) from rfl, show (-2 : Int) = -((2 : Nat) : Int) from rfl, show (-13 : Int) = -((13 : Nat) : Int) from rfl, show (-22 : Int) = -((22 : Nat) : Int) from rfl]
  rw [rotl_of _ (by decide), rotl_of _ (by decide), rotl_of _ (by decide), rotl_of _ (by decide), rotl_of _ (by decide), rotl_of _ (by decide), chk_of (by omega), chk_of (by decide), chk_of (by decide)]
  simp only [Option.bind_some, hv1, hv2, hv5, hv6, hv7, hy, hw, T_xor, T_and, T_or, T_add]
  refine ⟨_, rfl, fun i hi => ?_⟩
  have e1 : V 7 + (rr (V 4) 6 ^^^ rr (V 4) 11 ^^^ rr (V 4) 25) + (V 6 ^^^ (V 4 &&& (V 5 ^^^ V 6))) + K t + Wd m t = t1 V (K t) (Wd m t) := by unfold t1; rw [ch_eq]
  have e2 : (rr (V 0) 2 ^^^ rr (V 0) 13 ^^^ rr (V 0) 22) + ((V 0 &&& V 1) ||| (V 2 &&& (V 0 ||| V 1))) = t2 V := by unfold t2; rw [maj_eq]
  rw [e1, e2]
  show setArr (setArr (mvArr v 1 0 7) 4 (IntKind.u32.wrap (v 3 + _))) 0 _ i = T (step V (K t) (Wd m t) i)
  rw [hv3, T_add]
  match i, hi with
  | 0, _ => rfl
  | 1, _ => exact hv0
  | 2, _ => exact hv1
  | 3, _ => exact hv2
  | 4, _ => rfl
  | 5, _ => exact hv4
  | 6, _ => exact hv5
  | 7, _ => exact hv6
theorem blk2 {K m s : Nat → BitVec 32} {y w v : Nat → Int} (hy : ∀ t, t < 64 → y t = T (K t)) (hw : Rg m 0 w) (hv : ∀ i, i < 8 → v i = T (s i)) :
    ∃ r, Iter (G.sha_state_block_l2 y) ((0 : Int), w, v) = some r ∧ ∀ i, i < 8 → r i = T (rds K m s 64 i) := by
  refine Iter_total (f := G.sha_state_block_l2 y) (fun n st => ∃ t : Nat, st.1 = (t : Int) ∧ t ≤ 64 ∧ n = 64 - t ∧ Rg m t st.2.1 ∧ ∀ i, i < 8 → st.2.2 i = T (rds K m s t i)) (fun r => ∀ i, i < 8 → r i = T (rds K m s 64 i)) (by
    rintro n ⟨_, w, v⟩ ⟨t, ht, h64, rfl, hw, hv⟩
    simp only at ht hw hv; subst ht
    rw [l2_eq]
    by_cases hlt : t < 64
    · left
      obtain ⟨w', h1, h2, h3⟩ := upd_of hlt hw
      obtain ⟨v', h4, h5⟩ := rest_of hlt (hy t hlt) h3 hv
      rw [if_pos (by omega), chk_of (by omega), h1]
      simp only [Option.bind_some]
      rw [h4]
      exact ⟨64 - (t + 1), _, rfl, by omega, t + 1, rfl, by omega, rfl, h2, h5⟩
    · right
      rw [if_neg (by omega)]
      obtain rfl : t = 64 := by omega
      exact ⟨_, rfl, hv⟩) 64 _ ⟨0, rfl, by omega, rfl, hw, hv⟩
def comp (K : Nat → BitVec 32) (b : List UInt8) (s : Nat → BitVec 32) (i : Nat) : BitVec 32 := s i + rds K (mB b) s 64 i
theorem addW_get {v w : Nat → Int} {s r : Nat → BitVec 32} (hw : ∀ i, i < 8 → w i = T (s i)) (hv : ∀ i, i < 8 → v i = T (r i)) : ∀ (k : Nat), k ≤ 8 → ∀ i, i < 8 → addW v w k i = T (if i < k then s i + r i else s i)
  | 0, _, i, hi => by rw [if_neg (by omega)]; exact hw i hi
  | k + 1, hk, i, hi => by
    have ih := addW_get hw hv k (by omega)
    unfold addW
    rw [getN, getN, ih k (by omega), if_neg (by omega), hv k (by omega), T_add]
    unfold setArr
    by_cases e : i = k
    · subst e; rw [if_pos rfl, if_pos (by omega)]
    · rw [if_neg (by omega), ih i hi]
      by_cases h : i < k
      · rw [if_pos h, if_pos (by omega)]
      · rw [if_neg h, if_neg (by omega)]
theorem block_val {K : Nat → BitVec 32} (hK : ∀ y, G.sha_keys = some y → ∀ t, t < 64 → y t = T (K t)) {b : List UInt8} (h : 64 ≤ b.length) {w : Nat → Int} {s : Nat → BitVec 32} (hw : ∀ i, i < 8 → w i = T (s i)) : ∀ i, i < 8 → blkW b w i = T (comp K b s i) := by
  obtain ⟨v1, h1, m1⟩ := blk1 b h
  obtain ⟨y, hy⟩ : ∃ y, G.sha_keys = some y := ⟨_, rfl⟩
  obtain ⟨v2, h2, m2⟩ := blk2 (K := K) (m := mB b) (hK y hy) (w := v1) (fun j hj hj' => by rw [Wd_lt (by omega), Nat.mod_eq_of_lt (by omega)]; exact m1 j (by omega)) hw
  have e : G.sha_state_block b w [] 0 = some (addW v2 w 8, [], 0) := by
    unfold G.sha_state_block
    rw [h1, hy]
    simp only [Option.bind_some]
    rw [h2]
    exact block3_of _ _ _ _
  rw [block_of h] at e
  rw [(Prod.mk.inj (Option.some.inj e)).1]
  intro i hi
  rw [addW_get hw m2 8 (by decide) i hi, if_pos hi]; rfl
end G
end Go.Proofs.Ythnhjibbkleneaa
