/- Part of what the laws need: plain words, the walker and its laws, the program's functions. -/
import Derived.Test.YthnhjibbkleneaaZPBase
import Derived.Test.YthnhjibbkleneaaZEG
import Derived.KernelRfl
namespace Go.Proofs.Ythnhjibbkleneaa
open G
namespace G
theorem ofInt64 {x : Nat} (h : x < 18446744073709551616) : (BitVec.ofInt 64 (x : Int)).toNat = x := by
  rw [BitVec.ofInt_natCast, BitVec.toNat_ofNat]; exact Nat.mod_eq_of_lt h
theorem band64 {x y : Nat} (hx : x < 18446744073709551616) (hy : y < 18446744073709551616) : band .u64 (x : Int) (y : Int) = ((x &&& y : Nat) : Int) := by
  unfold band
  show IntKind.u64.wrap (((BitVec.ofInt 64 (x : Int) &&& BitVec.ofInt 64 (y : Int)).toNat : Nat) : Int) = _
  rw [BitVec.toNat_and, ofInt64 hx, ofInt64 hy]
  have : x &&& y ≤ x := Nat.and_le_left
  exact wu64 (by omega) (by omega)
theorem mask64 {x k m : Nat} (hx : x < 18446744073709551616) (hm : m = 2 ^ k - 1) (hy : m < 18446744073709551616) : band .u64 (x : Int) (m : Int) = ((x % 2 ^ k : Nat) : Int) := by
  rw [band64 hx hy, hm, Nat.and_two_pow_sub_one_eq_mod]
theorem shr64 {x k : Nat} (hk : k ≤ 64) : ishr .u64 (x : Int) (k : Int) = ((x / 2 ^ k : Nat) : Int) := by
  unfold ishr
  rw [show min (k : Int).toNat IntKind.u64.bits = k by simp [IntKind.bits]; omega, Int.fdiv_eq_ediv_of_nonneg _ (Int.le_of_lt (Int.pow_pos (by decide)))]
  simp
def car (p : Nat → Nat) : Nat → Nat
  | 0 => 0
  | k + 1 => (p k + car p k) / 4294967296
def outp (p : Nat → Nat) (k : Nat) : Nat := (p k + car p k) % 4294967296
def arrO (p : Nat → Nat) : Nat → (Nat → Int)
  | 0 => fun _ => 0
  | k + 1 => setArr (arrO p k) (k : Int) ((outp p k : Nat) : Int)
theorem arrO_get (p : Nat → Nat) : ∀ {k i : Nat}, i < k → arrO p k i = ((outp p i : Nat) : Int)
  | k + 1, i, h => by
    unfold arrO setArr
    by_cases e : i = k
    · subst e; simp
    · simp only [show ¬ ((i : Int) = (k : Int)) by omega, if_false]; exact arrO_get p (by omega)
def val (f : Nat → Nat) : Nat := f 0 + f 1 * 4294967296 + f 2 * 18446744073709551616 + f 3 * 79228162514264337593543950336
theorem car_val (p : Nat → Nat) : val (outp p) + car p 4 * 340282366920938463463374607431768211456 = val p := by
  unfold val outp
  simp only [car]
  omega
theorem outp_lt (p : Nat → Nat) (k : Nat) : outp p k < 4294967296 := Nat.mod_lt _ (by decide)
theorem car_lt {p : Nat → Nat} (hp : ∀ k, k < 4 → p k < 18446744069414584320) : ∀ k, k ≤ 4 → car p k < 4294967296
  | 0, _ => by unfold car; decide
  | k + 1, h => by
    have := car_lt hp k (by omega)
    have := hp k (by omega)
    unfold car; omega
theorem carry_loop {f : Int × Int × (Nat → Int) → Option ((Int × Int × (Nat → Int)) ⊕ (Nat → Int))} (p : Nat → Nat)
    (hf : ∀ k c (a : Nat → Int), k < 4 → c = car p k → f ((c : Int), (k : Int), a) = some (.inl ((((p k + c) / 4294967296 : Nat) : Int), ((k + 1 : Nat) : Int), setArr a (k : Int) (((p k + c) % 4294967296 : Nat) : Int))))
    (he : ∀ (c : Int) (a : Nat → Int), f (c, 4, a) = some (.inr a)) : Iter f ((0 : Int), (0 : Int), (fun _ => 0)) = some (arrO p 4) := by
  refine Iter_count 4 (fun k => ((car p k : Int), (k : Int), arrO p k)) _ (fun k hk => ?_) (he _ _) rfl
  rw [hf k _ _ hk rfl]; rfl
def Four (a : Nat → Int) (f : Nat → Nat) : Prop := ∀ i, i < 4 → a i = (f i : Int) ∧ f i < 4294967296
theorem four_arr (p : Nat → Nat) : Four (arrO p 4) (outp p) := fun i hi => ⟨arrO_get p hi, outp_lt p i⟩
theorem chk4_of {k : Nat} (h : k < 4) : chk (0 ≤ (k : Int) ∧ (k : Int) < 4) = some () := chk_of (by omega)
theorem carry_out {x : Nat} (h : x < 18446744073709551616) : ishr .u64 (x : Int) 32 = ((x / 4294967296 : Nat) : Int) ∧ band .u64 (x : Int) 4294967295 = ((x % 4294967296 : Nat) : Int) :=
  ⟨shr64 (k := 32) (by decide), mask64 (k := 32) (m := 4294967295) h (by decide) (by decide)⟩
theorem w64n {x : Nat} (h : x < 18446744073709551616) : IntKind.u64.wrap (x : Int) = (x : Int) := wu64 (by omega) (by omega)
theorem scale_of {a : Nat → Int} {f : Nat → Nat} {m : Nat} (ha : Four a f) (hm : m < 1048576) : G.graftref02_scale a (m : Int) = some (arrO (fun k => f k * m) 4) := by
  have hp : ∀ k, k < 4 → f k * m < 18446744069414584320 := fun k hk => by
    have h1 := (ha k hk).2
    calc f k * m ≤ 4294967295 * 1048575 := Nat.mul_le_mul (by omega) (by omega)
      _ < _ := by decide
  unfold G.graftref02_scale
  refine carry_loop _ (fun k c b hk hc => ?_) (fun c b => ?_)
  · have h1 := hp k hk
    have h2 := car_lt hp k (by omega)
    unfold G.graftref02_scale_l1
    rw [if_pos (by simp only; omega)]
    simp only [chk4_of hk, Option.bind_some]
    rw [show getArr a (k : Int) = (f k : Int) from (ha k hk).1, show (f k : Int) * (m : Int) = ((f k * m : Nat) : Int) by simp, w64n (by omega), show ((f k * m : Nat) : Int) + (c : Int) = ((f k * m + c : Nat) : Int) by omega, w64n (by omega), (carry_out (by omega)).1, (carry_out (by omega)).2, inc64 hk (by omega)]
  · unfold G.graftref02_scale_l1
    rw [if_neg (by simp)]
theorem shift_of {a : Nat → Int} {f : Nat → Nat} (ha : Four a f) : G.graftref02_shift a = some (arrO (fun k => f k * 65536) 4) := by
  have hp : ∀ k, k < 4 → f k * 65536 < 18446744069414584320 := fun k hk => by have h1 := (ha k hk).2; omega
  unfold G.graftref02_shift
  refine carry_loop _ (fun k c b hk hc => ?_) (fun c b => ?_)
  · have h1 := hp k hk
    have h2 := car_lt hp k (by omega)
    unfold G.graftref02_shift_l1
    rw [if_pos (by simp only; omega)]
    simp only [chk4_of hk, Option.bind_some]
    have e1 : ishl .u64 (getArr a (k : Int)) 16 = ((f k * 65536 : Nat) : Int) := by
      rw [show getArr a (k : Int) = (f k : Int) from (ha k hk).1]
      unfold ishl
      rw [show (2 : Int) ^ (min (16 : Int).toNat IntKind.u64.bits) = 65536 from rfl, show (f k : Int) * 65536 = ((f k * 65536 : Nat) : Int) by simp]
      exact w64n (by omega)
    rw [e1]
    have h3 : c < 4294967296 := by rw [hc]; exact h2
    clear e1 h2 hc
    generalize f k * 65536 = q at *
    rw [show (q : Int) + (c : Int) = ((q + c : Nat) : Int) by omega, w64n (by omega), (carry_out (by omega)).1, (carry_out (by omega)).2, inc64 hk (by omega)]
  · unfold G.graftref02_shift_l1
    rw [if_neg (by simp)]
theorem plus_of {a b : Nat → Int} {f g : Nat → Nat} (ha : Four a f) (hb : Four b g) : G.graftref02_plus a b = some (arrO (fun k => f k + g k) 4) := by
  have hp : ∀ k, k < 4 → f k + g k < 18446744069414584320 := fun k hk => by have h1 := (ha k hk).2; have := (hb k hk).2; omega
  unfold G.graftref02_plus
  refine carry_loop _ (fun k c d hk hc => ?_) (fun c d => ?_)
  · have h1 := hp k hk
    have h2 := car_lt hp k (by omega)
    unfold G.graftref02_plus_l1
    rw [if_pos (by simp only; omega)]
    simp only [chk4_of hk, Option.bind_some]
    rw [show getArr a (k : Int) = (f k : Int) from (ha k hk).1, show getArr b (k : Int) = (g k : Int) from (hb k hk).1, show (f k : Int) + (g k : Int) = ((f k + g k : Nat) : Int) by omega, w64n (by omega), show ((f k + g k : Nat) : Int) + (c : Int) = ((f k + g k + c : Nat) : Int) by omega, w64n (by omega), (carry_out (by omega)).1, (carry_out (by omega)).2, inc64 hk (by omega)]
  · unfold G.graftref02_plus_l1
    rw [if_neg (by simp)]
theorem val_mul (f : Nat → Nat) (m : Nat) : val (fun k => f k * m) = val f * m := by
  unfold val; simp only [Nat.add_mul]; simp only [Nat.mul_assoc, Nat.mul_comm m, Nat.mul_left_comm m]
theorem val_add (f g : Nat → Nat) : val (fun k => f k + g k) = val f + val g := by simp only [val]; omega
theorem outp_val {p : Nat → Nat} (h : val p < 340282366920938463463374607431768211456) : val (outp p) = val p := by have := car_val p; omega
theorem cut16 {x : Nat} (h : x < 18446744073709551616) : band .u64 (x : Int) 65535 = ((x % 65536 : Nat) : Int) ∧ ishr .u64 (x : Int) 16 = ((x / 65536 : Nat) : Int) :=
  ⟨mask64 (k := 16) (m := 65535) h (by decide) (by decide), shr64 (k := 16) (by decide)⟩
theorem times_of {a : Nat → Int} {f : Nat → Nat} {m : Nat} (ha : Four a f) (hm : m < 68719476736) (hv : val f * m < 340282366920938463463374607431768211456) : ∃ r g, G.graftref02_times a (m : Int) = some r ∧ Four r g ∧ val g = val f * m := by
  have e1 : m = m / 65536 * 65536 + m % 65536 := by omega
  have e2 : val f * (m / 65536) * 65536 + val f * (m % 65536) = val f * m := by rw [Nat.mul_assoc, ← Nat.mul_add, ← e1]
  unfold G.graftref02_times
  rw [(cut16 (by omega)).1, (cut16 (by omega)).2, scale_of ha (show m % 65536 < 1048576 by omega), scale_of ha (show m / 65536 < 1048576 by omega)]
  simp only [Option.bind_some]
  rw [shift_of (four_arr _)]
  simp only [Option.bind_some]
  rw [plus_of (four_arr _) (four_arr _)]
  refine ⟨_, _, rfl, four_arr _, ?_⟩
  have v1 : val (outp fun k => f k * (m % 65536)) = val f * (m % 65536) := by rw [outp_val (by rw [val_mul]; omega), val_mul]
  have v2 : val (outp fun k => f k * (m / 65536)) = val f * (m / 65536) := by rw [outp_val (by rw [val_mul]; omega), val_mul]
  have v3 : val (outp fun k => outp (fun k => f k * (m / 65536)) k * 65536) = val f * (m / 65536) * 65536 := by rw [outp_val (by rw [val_mul, v2]; omega), val_mul, v2]
  rw [outp_val (by rw [val_add, v1, v3]; omega), val_add, v1, v3]
  omega
section
variable {a b : Nat → Int} {f g : Nat → Nat}
theorem wcmp_step (ha : Four a f) (hb : Four b g) {k : Nat} (hk : k < 4) : G.graftref02_least_l1 (a, b) (k : Int) = if f k = g k then some (.inl ((k : Int) - 1)) else some (.inr (decide (f k < g k))) := by
  unfold G.graftref02_least_l1
  have e1 : getArr a (k : Int) = (f k : Int) := (ha k hk).1
  have e2 : getArr b (k : Int) = (g k : Int) := (hb k hk).1
  rw [if_pos (by omega)]
  simp only [chk4_of hk, Option.bind_some, e1, e2]
  by_cases h : f k = g k
  · rw [if_neg (by omega), if_pos h, w64 (by omega) (by omega)]
  · rw [if_pos (by omega), if_neg h]
    congr 2
    rw [decide_eq_decide]; omega
theorem wcmp_of (ha : Four a f) (hb : Four b g) : Iter (G.graftref02_least_l1 (a, b)) 3 = some (decide (val f ≤ val g)) := by
  have h3 := wcmp_step ha hb (k := 3) (by decide); have h2 := wcmp_step ha hb (k := 2) (by decide); have h1 := wcmp_step ha hb (k := 1) (by decide); have h0 := wcmp_step ha hb (k := 0) (by decide)
  have a3 := (ha 3 (by decide)).2; have a2 := (ha 2 (by decide)).2; have a1 := (ha 1 (by decide)).2; have a0 := (ha 0 (by decide)).2
  have b3 := (hb 3 (by decide)).2; have b2 := (hb 2 (by decide)).2; have b1 := (hb 1 (by decide)).2; have b0 := (hb 0 (by decide)).2
  by_cases c3 : f 3 = g 3
  · rw [if_pos c3] at h3
    refine (Iter_inl h3).trans ?_
    by_cases c2 : f 2 = g 2
    · rw [if_pos c2] at h2
      refine (Iter_inl h2).trans ?_
      by_cases c1 : f 1 = g 1
      · rw [if_pos c1] at h1
        refine (Iter_inl h1).trans ?_
        by_cases c0 : f 0 = g 0
        · rw [if_pos c0] at h0
          refine (Iter_inl h0).trans ((Iter_inr (a := true) ?_).trans ?_)
          · unfold G.graftref02_least_l1; rw [if_neg (by decide)]
          · congr 1; symm; exact decide_eq_true (by unfold val; omega)
        · rw [if_neg c0] at h0
          refine (Iter_inr h0).trans ?_
          congr 1; rw [decide_eq_decide]; unfold val; omega
      · rw [if_neg c1] at h1
        refine (Iter_inr h1).trans ?_
        congr 1; rw [decide_eq_decide]; unfold val; omega
    · rw [if_neg c2] at h2
      refine (Iter_inr h2).trans ?_
      congr 1; rw [decide_eq_decide]; unfold val; omega
  · rw [if_neg c3] at h3
    refine (Iter_inr h3).trans ?_
    congr 1; rw [decide_eq_decide]; unfold val; omega
end
theorem four_set (w x y z : Nat) (hw : w < 4294967296) (hx : x < 4294967296) (hy : y < 4294967296) (hz : z < 4294967296) :
    ∃ f, Four (setArr (setArr (setArr (setArr (fun _ => 0) 0 (w : Int)) 1 (x : Int)) 2 (y : Int)) 3 (z : Int)) f ∧ val f = w + x * 4294967296 + y * 18446744073709551616 + z * 79228162514264337593543950336 := by
  refine ⟨fun i => if i = 0 then w else if i = 1 then x else if i = 2 then y else z, fun i hi => ?_, ?_⟩
  · match i, hi with
    | 0, _ => exact ⟨rfl, hw⟩
    | 1, _ => exact ⟨rfl, hx⟩
    | 2, _ => exact ⟨rfl, hy⟩
    | 3, _ => exact ⟨rfl, hz⟩
  · simp [val]
def lst (m n : Nat) (c : Bool) : Bool := if c then decide (m * m * m ≤ n * 79228162514264337593543950336) else decide (m * m ≤ n * 18446744073709551616)
theorem cut32 {x : Nat} (h : x < 18446744073709551616) : ishr .u64 (x : Int) 32 = ((x / 4294967296 : Nat) : Int) ∧ band .u64 (x : Int) 4294967295 = ((x % 4294967296 : Nat) : Int) := carry_out h
theorem least_of {m n : Nat} (c : Bool) (hm : m < 68719476736) (hn : n < 4294967296) (hc : c = true → m ≤ 34359738368) : G.graftref02_least (m : Int) (n : Int) c = some (lst m n c) := by
  unfold G.graftref02_least lst
  rw [(cut32 (by omega)).1, (cut32 (by omega)).2]
  obtain ⟨f, hf, vf⟩ := four_set (m % 4294967296) (m / 4294967296) 0 0 (by omega) (by omega) (by decide) (by decide)
  have vf : val f = m := by rw [vf]; omega
  have b1 : val f * m < 340282366920938463463374607431768211456 := by rw [vf]; exact Nat.lt_of_le_of_lt (Nat.mul_le_mul (Nat.le_of_lt hm) (Nat.le_of_lt hm)) (by decide)
  obtain ⟨r, g, e1, hg, vg⟩ := times_of hf hm b1
  have e1' : G.graftref02_times (setArr (setArr (setArr (setArr (fun _ => 0) 0 ((m % 4294967296 : Nat) : Int)) 1 ((m / 4294967296 : Nat) : Int)) 2 0) 3 0) (m : Int) = some r := e1
  rw [e1']
  simp only [Option.bind_some]
  cases c
  · obtain ⟨h, hh, vh⟩ := four_set 0 0 n 0 (by decide) (by decide) hn (by decide)
    simp only [Bool.false_eq_true, if_false, Option.bind_some]
    refine (wcmp_of hg hh).trans ?_
    rw [vg, vh, vf]
    congr 1; rw [decide_eq_decide]; omega
  · obtain ⟨h, hh, vh⟩ := four_set 0 0 0 n (by decide) (by decide) (by decide) hn
    have hm3 := hc rfl
    have b2 : val g * m < 340282366920938463463374607431768211456 := by rw [vg, vf]; exact Nat.lt_of_le_of_lt (Nat.mul_le_mul (Nat.mul_le_mul hm3 hm3) hm3) (by decide)
    obtain ⟨r2, g2, e2, hg2, vg2⟩ := times_of hg hm b2
    simp only [if_true]
    rw [e2]
    simp only [Option.bind_some]
    refine (wcmp_of hg2 hh).trans ?_
    rw [vg2, vg, vh, vf]
    congr 1; rw [decide_eq_decide]; omega
def rtF (n : Nat) (c : Bool) : Nat → Nat → Nat → Nat
  | 0, lo, _ => lo
  | k + 1, lo, hi => if hi - lo > 1 then (if lst ((lo + hi) / 2) n c then rtF n c k ((lo + hi) / 2) hi else rtF n c k lo ((lo + hi) / 2)) else lo
theorem root_loop {n : Nat} (c : Bool) (hn : n < 4294967296) : ∀ (k : Nat) {lo hi : Nat}, lo < hi → hi ≤ 68719476736 → (c = true → hi ≤ 34359738368) → hi - lo ≤ 2 ^ k → Iter (G.graftref02_root_l1 (n : Int) c) ((lo : Int), (hi : Int)) = some (IntKind.u32.wrap (rtF n c k lo hi : Int))
  | 0, lo, hi, h1, h2, h3, h4 => by
    refine Iter_inr ?_
    unfold G.graftref02_root_l1
    rw [wu64 (by simp only; omega) (by simp only; omega), if_neg (by simp only; omega)]; rfl
  | k + 1, lo, hi, h1, h2, h3, h4 => by
    by_cases h : hi - lo > 1
    · have e1 : IntKind.u64.wrap (Int.tdiv (IntKind.u64.wrap ((lo : Int) + (hi : Int))) 2) = (((lo + hi) / 2 : Nat) : Int) := by
        rw [wu64 (x := (lo : Int) + (hi : Int)) (by omega) (by omega), Int.tdiv_eq_ediv_of_nonneg (by omega), wu64 (by omega) (by omega)]; omega
      have e2 := least_of (m := (lo + hi) / 2) c (by omega) hn (fun hc => by have := h3 hc; omega)
      unfold rtF
      rw [if_pos h]
      cases hl : lst ((lo + hi) / 2) n c
      · rw [if_neg (by simp)]
        refine (Iter_inl (s' := ((lo : Int), (((lo + hi) / 2 : Nat) : Int))) ?_).trans (root_loop c hn k (by omega) (by omega) (fun hc => by have := h3 hc; omega) (by rw [Nat.pow_succ] at h4; omega))
        unfold G.graftref02_root_l1
        rw [wu64 (by simp only; omega) (by simp only; omega), if_pos (by simp only; omega), e1, e2, hl]; rfl
      · rw [if_pos rfl]
        refine (Iter_inl (s' := ((((lo + hi) / 2 : Nat) : Int), (hi : Int))) ?_).trans (root_loop c hn k (by omega) (by omega) h3 (by rw [Nat.pow_succ] at h4; omega))
        unfold G.graftref02_root_l1
        rw [wu64 (by simp only; omega) (by simp only; omega), if_pos (by simp only; omega), e1, e2, hl]; rfl
    · unfold rtF
      rw [if_neg h]
      refine Iter_inr ?_
      unfold G.graftref02_root_l1
      rw [wu64 (by simp only; omega) (by simp only; omega), if_neg (by simp only; omega)]
def rt (n : Nat) (c : Bool) : Nat := rtF n c 36 0 (if c then 34359738368 else 68719476736) % 4294967296
theorem root_of {n : Nat} (c : Bool) (hn : n < 4294967296) : G.graftref02_root (n : Int) c = some (rt n c : Int) := by
  unfold G.graftref02_root rt
  have e : ∀ x : Nat, IntKind.u32.wrap (x : Int) = ((x % 4294967296 : Nat) : Int) := fun x => by simp [IntKind.wrap, IntKind.bits, IntKind.signed]
  cases c
  · simp only [Bool.false_eq_true, if_false, Option.bind_some]
    exact (root_loop (lo := 0) (hi := 68719476736) false hn 36 (by decide) (by decide) (by simp) (by decide)).trans (by rw [e])
  · simp only [if_true, Option.bind_some]
    exact (root_loop (lo := 0) (hi := 34359738368) true hn 36 (by decide) (by decide) (by simp) (by decide)).trans (by rw [e])
def ints (l : List Nat) : List Int := List.map (fun x : Nat => (x : Int)) l
theorem ints_len (l : List Nat) : (ints l).length = l.length := by unfold ints; rw [List.length_map]
theorem ints_idx {l : List Nat} {k : Nat} (h : k < l.length) : idx (ints l) (k : Int) = some (l[k] : Int) := by
  rw [idx_of (by rw [ints_len]; exact h)]; simp [ints]
theorem ints_app (a b : List Nat) : ints (a ++ b) = ints a ++ ints b := by unfold ints; rw [List.map_append]
theorem prime_in {l : List Nat} {p : Nat} (hl : ∀ x ∈ l, x ≠ 0) (hn : l.length ≤ 1000) : Iter (G.graftref02_primes_l2 (ints l, (p : Int))) (true, (0 : Int)) = some (l.all fun x => p % x != 0) := by
  refine Iter_count l.length (fun k => ((l.take k).all fun x => p % x != 0, (k : Int))) _ (fun k hk => ?_) ?_ (by simp)
  · unfold G.graftref02_primes_l2
    have h1 : l[k] ≠ 0 := hl _ (List.getElem_mem hk)
    rw [if_pos (by simp only [ints_len]; omega), ints_idx hk]
    simp only [Option.bind_some]
    rw [chk_of (by omega), inc64 hk (by omega), List.take_succ_eq_append_getElem hk, List.all_append, Int.tmod_eq_emod_of_nonneg (by omega)]
    simp only [Option.bind_some, List.all_cons, List.all_nil, Bool.and_true]
    by_cases h : p % l[k] = 0
    · rw [if_pos (by omega), show (p % l[k] != 0) = false by simp [h], Bool.and_false]
    · rw [if_neg (by omega), show (p % l[k] != 0) = true by simp [h], Bool.and_true]
  · unfold G.graftref02_primes_l2
    rw [if_neg (by simp [ints_len]), List.take_length]
def pr (n : Nat) : Nat → List Nat → Nat → Option (List Nat)
  | 0, _, _ => none
  | k + 1, l, p => if l.length < n then pr n k (if l.all fun x => p % x != 0 then l ++ [p] else l) (p + 1) else some l
theorem primes_loop {n : Nat} (hn : n ≤ 1000) : ∀ (k : Nat) {l : List Nat} {p : Nat} {r : List Nat}, (∀ x ∈ l, x ≠ 0) → l.length ≤ n → p ≠ 0 → p + k ≤ 1000000 → pr n k l p = some r → Iter (G.graftref02_primes_l1 (n : Int)) (ints l, (p : Int)) = some (ints r)
  | 0, _, _, _, _, _, _, _, h => by cases h
  | k + 1, l, p, r, hl, hk, hp, hpk, h => by
    unfold pr at h
    by_cases hlt : l.length < n
    · rw [if_pos hlt] at h
      have e := prime_in (p := p) hl (by omega)
      cases ha : l.all fun x => p % x != 0 with
      | false =>
        rw [ha] at h e
        refine (Iter_inl (s' := (ints l, ((p + 1 : Nat) : Int))) ?_).trans (primes_loop hn k hl hk (by omega) (by omega) h)
        unfold G.graftref02_primes_l1
        rw [if_pos (by simp only [ints_len]; omega), e]
        simp only [Option.bind_some, Bool.false_eq_true, if_false]
        rw [wu64 (by omega) (by omega)]; rfl
      | true =>
        rw [ha] at h e
        refine (Iter_inl (s' := (ints (l ++ [p]), ((p + 1 : Nat) : Int))) ?_).trans (primes_loop hn k (fun x hx => ?_) (by simp; omega) (by omega) (by omega) h)
        · unfold G.graftref02_primes_l1
          rw [if_pos (by simp only [ints_len]; omega), e]
          simp only [Option.bind_some, if_true]
          rw [app_of (by rw [ints_len]; simp; omega), wu64 (by omega) (by omega), ints_app]; rfl
        · rcases List.mem_append.1 hx with hx | hx
          · exact hl x hx
          · simp at hx; omega
    · rw [if_neg hlt] at h
      cases h
      refine Iter_inr ?_
      unfold G.graftref02_primes_l1
      rw [if_neg (by simp only [ints_len]; omega)]
theorem consts_of {n : Nat} {c : Bool} {P : List Nat} (hn : n ≤ 1000) (h : pr n 1000 [] 2 = some P) (hP : P.length ≤ 1000) (hb : ∀ x ∈ P, x < 4294967296) : G.graftref02_Constants (n : Int) c = some (P.map fun x => (rt x c : Int)) := by
  unfold G.graftref02_Constants G.graftref02_primes
  have e := primes_loop hn 1000 (l := []) (p := 2) (by simp) (by simp) (by decide) (by decide) h
  rw [show (([] : List Int), (2 : Int)) = (ints [], ((2 : Nat) : Int)) from rfl, e]
  simp only [Option.bind_some]
  refine Iter_count P.length (fun k => ((P.take k).map fun x => (rt x c : Int), (k : Int))) _ (fun k hk => ?_) ?_ (by simp)
  · unfold G.graftref02_Constants_l1
    rw [if_pos (by simp only [ints_len]; omega), ints_idx hk]
    simp only [Option.bind_some]
    rw [root_of c (hb _ (List.getElem_mem hk))]
    simp only [Option.bind_some]
    rw [app_of (by simp; omega)]
    simp only [Option.bind_some]
    rw [inc64 hk (by omega), List.take_succ_eq_append_getElem hk, List.map_append]; rfl
  · unfold G.graftref02_Constants_l1
    rw [if_neg (by simp [ints_len]), List.take_length]
def P8 : List Nat := [2, 3, 5, 7, 11, 13, 17, 19]
def P64 : List Nat := [2, 3, 5, 7, 11, 13, 17, 19, 23, 29, 31, 37, 41, 43, 47, 53, 59, 61, 67, 71, 73, 79, 83, 89, 97, 101, 103, 107, 109, 113, 127, 131, 137, 139, 149, 151, 157, 163, 167, 173, 179, 181, 191, 193, 197, 199, 211, 223, 227, 229, 233, 239, 241, 251, 257, 263, 269, 271, 277, 281, 283, 293, 307, 311]
theorem pr8 : pr 8 1000 [] 2 = some P8 := by kernel_rfl
theorem pr64 : pr 64 1000 [] 2 = some P64 := by kernel_rfl
theorem lt_P : ((P8 ++ P64).all fun x => decide (x < 4294967296)) = true := by kernel_rfl
def S8 : List Nat := P8.map fun x => rt x false
def K64 : List Nat := P64.map fun x => rt x true
theorem Table_of : G.graftref02_Table = some ⟨ints S8, ints K64⟩ := by
  have hb : ∀ x ∈ P8 ++ P64, x < 4294967296 := fun x hx => of_decide_eq_true (List.all_eq_true.1 lt_P x hx)
  have e1 := consts_of (c := false) (n := 8) (by decide) pr8 (by decide) (fun x hx => hb x (List.mem_append.2 (.inl hx)))
  have e2 := consts_of (c := true) (n := 64) (by decide) pr64 (by decide) (fun x hx => hb x (List.mem_append.2 (.inr hx)))
  unfold G.graftref02_Table
  rw [show (8 : Int) = ((8 : Nat) : Int) from rfl, e1, show (64 : Int) = ((64 : Nat) : Int) from rfl, e2]
  simp only [Option.bind_some, S8, K64, List.map_map]
  rfl
theorem K64_eq : ∀ w, G.sha_keys = some w → (List.range 64).map w = ints K64 := by
  have e : (G.sha_keys.map fun w => (List.range 64).map w) = some (ints K64) := by kernel_rfl
  intro w h
  rw [h] at e
  exact Option.some.inj e
end G
end Go.Proofs.Ythnhjibbkleneaa
