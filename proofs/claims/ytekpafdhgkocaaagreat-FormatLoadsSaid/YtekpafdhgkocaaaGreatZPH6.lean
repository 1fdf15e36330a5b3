/- Part of what the laws need: plain words, the walker and its laws, the program's functions. -/
import Derived.Test.YtekpafdhgkocaaaGreatZPBase
import Derived.Test.YtekpafdhgkocaaaGreatZEG
import Derived.KernelRfl
namespace Go.Proofs.YtekpafdhgkocaaaGreat
open G
namespace G
theorem ofInt64 {x : Nat} (h : x < 18446744073709551616) : (BitVec.ofInt 64 (x : Int)).toNat = x := by
 rw [BitVec.ofInt_natCast, BitVec.toNat_ofNat]; exact Nat.mod_eq_of_lt h
theorem Mb {x y : Nat} (hx : x < 18446744073709551616) (hy : y < 18446744073709551616) : aR .u64 (x : Int) (y : Int) = ((x &&& y : Nat) : Int) := by
 unfold aR
 show IntKind.u64.wrap (((BitVec.ofInt 64 (x : Int) &&& BitVec.ofInt 64 (y : Int)).toNat : Nat) : Int) = _
 rw [BitVec.toNat_and, ofInt64 hx, ofInt64 hy]
 have : x &&& y ≤ x := Nat.and_le_left
 exact qz (by omega) (by omega)
theorem HD {x k m : Nat} (hx : x < 18446744073709551616) (hm : m = 2 ^ k - 1) (hy : m < 18446744073709551616) : aR .u64 (x : Int) (m : Int) = ((x % 2 ^ k : Nat) : Int) := by
 rw [Mb hx hy, hm, Nat.and_two_pow_sub_one_eq_mod]
theorem LD {x k : Nat} (hk : k ≤ 64) : bN .u64 (x : Int) (k : Int) = ((x / 2 ^ k : Nat) : Int) := by
 unfold bN
 rw [show min (k : Int).toNat IntKind.u64.bits = k by simp [IntKind.bits]; omega, Int.fdiv_eq_ediv_of_nonneg _ (Int.le_of_lt (Int.pow_pos (by decide)))]
 simp
def Jy (p : Nat → Nat) : Nat → Nat
 | 0 => 0
 | k + 1 => (p k + Jy p k) / 4294967296
def xD (p : Nat → Nat) (k : Nat) : Nat := (p k + Jy p k) % 4294967296
def zX (p : Nat → Nat) : Nat → (Nat → Int)
 | 0 => fun _ => 0
 | k + 1 => ah (zX p k) (k : Int) ((xD p k : Nat) : Int)
theorem Bo (p : Nat → Nat) : ∀ {k i : Nat}, i < k → zX p k i = ((xD p i : Nat) : Int)
 | k + 1, i, h => by
   unfold zX ah
   by_cases e : i = k
   · subst e; simp
   · simp only [show ¬ ((i : Int) = (k : Int)) by omega, if_false]; exact Bo p (by omega)
def val (f : Nat → Nat) : Nat := f 0 + f 1 * 4294967296 + f 2 * 18446744073709551616 + f 3 * 79228162514264337593543950336
theorem Jz (p : Nat → Nat) : val (xD p) + Jy p 4 * 340282366920938463463374607431768211456 = val p := by
 unfold val xD
 simp only [Jy]
 omega
theorem Kj (p : Nat → Nat) (k : Nat) : xD p k < 4294967296 := Nat.mod_lt _ (by decide)
theorem z4 {p : Nat → Nat} (hp : ∀ k, k < 4 → p k < 18446744069414584320) : ∀ k, k ≤ 4 → Jy p k < 4294967296
 | 0, _ => by unfold Jy; decide
 | k + 1, h => by
   have := z4 hp k (by omega)
   have := hp k (by omega)
   unfold Jy; omega
theorem rl {f : Int × Int × (Nat → Int) → Option ((Int × Int × (Nat → Int)) ⊕ (Nat → Int))} (p : Nat → Nat)
 (hf : ∀ k c (a : Nat → Int), k < 4 → c = Jy p k → f ((c : Int), (k : Int), a) = some (.inl ((((p k + c) / 4294967296 : Nat) : Int), ((k + 1 : Nat) : Int), ah a (k : Int) (((p k + c) % 4294967296 : Nat) : Int))))
 (he : ∀ (c : Int) (a : Nat → Int), f (c, 4, a) = some (.inr a)) : Iter f ((0 : Int), (0 : Int), (fun _ => 0)) = some (zX p 4) := by
 refine bA 4 (fun k => ((Jy p k : Int), (k : Int), zX p k)) _ (fun k hk => ?_) (he _ _) rfl
 rw [hf k _ _ hk rfl]; rfl
def vA (a : Nat → Int) (f : Nat → Nat) : Prop := ∀ i, i < 4 → a i = (f i : Int) ∧ f i < 4294967296
theorem sE (p : Nat → Nat) : vA (zX p 4) (xD p) := fun i hi => ⟨Bo p hi, Kj p i⟩
theorem vY {k : Nat} (h : k < 4) : dZ (0 ≤ (k : Int) ∧ (k : Int) < 4) = some () := bg (by omega)
theorem ji {x : Nat} (h : x < 18446744073709551616) : bN .u64 (x : Int) 32 = ((x / 4294967296 : Nat) : Int) ∧ aR .u64 (x : Int) 4294967295 = ((x % 4294967296 : Nat) : Int) :=
 ⟨LD (k := 32) (by decide), HD (k := 32) (m := 4294967295) h (by decide) (by decide)⟩
theorem Gm {x : Nat} (h : x < 18446744073709551616) : IntKind.u64.wrap (x : Int) = (x : Int) := qz (by omega) (by omega)
theorem Ci {a : Nat → Int} {f : Nat → Nat} {m : Nat} (ha : vA a f) (hm : m < 1048576) : G.fe a (m : Int) = some (zX (fun k => f k * m) 4) := by
 have hp : ∀ k, k < 4 → f k * m < 18446744069414584320 := fun k hk => by
  have h1 := (ha k hk).2
  calc f k * m ≤ 4294967295 * 1048575 := Nat.mul_le_mul (by omega) (by omega)
   _ < _ := by decide
 unfold G.fe
 refine rl _ (fun k c b hk hc => ?_) (fun c b => ?_)
 · have h1 := hp k hk
   have h2 := z4 hp k (by omega)
   unfold G.gJ
   rw [if_pos (by simp only; omega)]
   simp only [vY hk, Option.bind_some]
   rw [show aD a (k : Int) = (f k : Int) from (ha k hk).1, show (f k : Int) * (m : Int) = ((f k * m : Nat) : Int) by simp, Gm (by omega), show ((f k * m : Nat) : Int) + (c : Int) = ((f k * m + c : Nat) : Int) by omega, Gm (by omega), (ji (by omega)).1, (ji (by omega)).2, ea hk (by omega)]
 · unfold G.gJ
   rw [if_neg (by simp)]
theorem IK {a : Nat → Int} {f : Nat → Nat} (ha : vA a f) : G.gC a = some (zX (fun k => f k * 65536) 4) := by
 have hp : ∀ k, k < 4 → f k * 65536 < 18446744069414584320 := fun k hk => by have h1 := (ha k hk).2; omega
 unfold G.gC
 refine rl _ (fun k c b hk hc => ?_) (fun c b => ?_)
 · have h1 := hp k hk
   have h2 := z4 hp k (by omega)
   unfold G.gK
   rw [if_pos (by simp only; omega)]
   simp only [vY hk, Option.bind_some]
   have e1 : iC .u64 (aD a (k : Int)) 16 = ((f k * 65536 : Nat) : Int) := by
    rw [show aD a (k : Int) = (f k : Int) from (ha k hk).1]
    unfold iC
    rw [show (2 : Int) ^ (min (16 : Int).toNat IntKind.u64.bits) = 65536 from rfl, show (f k : Int) * 65536 = ((f k * 65536 : Nat) : Int) by simp]
    exact Gm (by omega)
   rw [e1]
   have h3 : c < 4294967296 := by rw [hc]; exact h2
   clear e1 h2 hc
   generalize f k * 65536 = q at *
   rw [show (q : Int) + (c : Int) = ((q + c : Nat) : Int) by omega, Gm (by omega), (ji (by omega)).1, (ji (by omega)).2, ea hk (by omega)]
 · unfold G.gK
   rw [if_neg (by simp)]
theorem Km {a b : Nat → Int} {f g : Nat → Nat} (ha : vA a f) (hb : vA b g) : G.gZ a b = some (zX (fun k => f k + g k) 4) := by
 have hp : ∀ k, k < 4 → f k + g k < 18446744069414584320 := fun k hk => by have h1 := (ha k hk).2; have := (hb k hk).2; omega
 unfold G.gZ
 refine rl _ (fun k c d hk hc => ?_) (fun c d => ?_)
 · have h1 := hp k hk
   have h2 := z4 hp k (by omega)
   unfold G.ib
   rw [if_pos (by simp only; omega)]
   simp only [vY hk, Option.bind_some]
   rw [show aD a (k : Int) = (f k : Int) from (ha k hk).1, show aD b (k : Int) = (g k : Int) from (hb k hk).1, show (f k : Int) + (g k : Int) = ((f k + g k : Nat) : Int) by omega, Gm (by omega), show ((f k + g k : Nat) : Int) + (c : Int) = ((f k + g k + c : Nat) : Int) by omega, Gm (by omega), (ji (by omega)).1, (ji (by omega)).2, ea hk (by omega)]
 · unfold G.ib
   rw [if_neg (by simp)]
theorem val_mul (f : Nat → Nat) (m : Nat) : val (fun k => f k * m) = val f * m := by
 unfold val; simp only [Nat.add_mul]; simp only [Nat.mul_assoc, Nat.mul_comm m, Nat.mul_left_comm m]
theorem val_add (f g : Nat → Nat) : val (fun k => f k + g k) = val f + val g := by simp only [val]; omega
theorem sR {p : Nat → Nat} (h : val p < 340282366920938463463374607431768211456) : val (xD p) = val p := by have := Jz p; omega
theorem Lq {x : Nat} (h : x < 18446744073709551616) : aR .u64 (x : Int) 65535 = ((x % 65536 : Nat) : Int) ∧ bN .u64 (x : Int) 16 = ((x / 65536 : Nat) : Int) :=
 ⟨HD (k := 16) (m := 65535) h (by decide) (by decide), LD (k := 16) (by decide)⟩
theorem Cu {a : Nat → Int} {f : Nat → Nat} {m : Nat} (ha : vA a f) (hm : m < 68719476736) (hv : val f * m < 340282366920938463463374607431768211456) : ∃ r g, G.dG a (m : Int) = some r ∧ vA r g ∧ val g = val f * m := by
 have e1 : m = m / 65536 * 65536 + m % 65536 := by omega
 have e2 : val f * (m / 65536) * 65536 + val f * (m % 65536) = val f * m := by rw [Nat.mul_assoc, ← Nat.mul_add, ← e1]
 unfold G.dG
 rw [(Lq (by omega)).1, (Lq (by omega)).2, Ci ha (show m % 65536 < 1048576 by omega), Ci ha (show m / 65536 < 1048576 by omega)]
 simp only [Option.bind_some]
 rw [IK (sE _)]
 simp only [Option.bind_some]
 rw [Km (sE _) (sE _)]
 refine ⟨_, _, rfl, sE _, ?_⟩
 have v1 : val (xD fun k => f k * (m % 65536)) = val f * (m % 65536) := by rw [sR (by rw [val_mul]; omega), val_mul]
 have v2 : val (xD fun k => f k * (m / 65536)) = val f * (m / 65536) := by rw [sR (by rw [val_mul]; omega), val_mul]
 have v3 : val (xD fun k => xD (fun k => f k * (m / 65536)) k * 65536) = val f * (m / 65536) * 65536 := by rw [sR (by rw [val_mul, v2]; omega), val_mul, v2]
 rw [sR (by rw [val_add, v1, v3]; omega), val_add, v1, v3]
 omega
section
variable {a b : Nat → Int} {f g : Nat → Nat}
theorem pQ (ha : vA a f) (hb : vA b g) {k : Nat} (hk : k < 4) : G.dx (a, b) (k : Int) = if f k = g k then some (.inl ((k : Int) - 1)) else some (.inr (decide (f k < g k))) := by
 unfold G.dx
 have e1 : aD a (k : Int) = (f k : Int) := (ha k hk).1
 have e2 : aD b (k : Int) = (g k : Int) := (hb k hk).1
 rw [if_pos (by omega)]
 simp only [vY hk, Option.bind_some, e1, e2]
 by_cases h : f k = g k
 · rw [if_neg (by omega), if_pos h, eK (by omega) (by omega)]
 · rw [if_pos (by omega), if_neg h]
   congr 2
   rw [decide_eq_decide]; omega
theorem EX (ha : vA a f) (hb : vA b g) : Iter (G.dx (a, b)) 3 = some (decide (val f ≤ val g)) := by
 have h3 := pQ ha hb (k := 3) (by decide); have h2 := pQ ha hb (k := 2) (by decide); have h1 := pQ ha hb (k := 1) (by decide); have h0 := pQ ha hb (k := 0) (by decide)
 have a3 := (ha 3 (by decide)).2; have a2 := (ha 2 (by decide)).2; have a1 := (ha 1 (by decide)).2; have a0 := (ha 0 (by decide)).2
 have b3 := (hb 3 (by decide)).2; have b2 := (hb 2 (by decide)).2; have b1 := (hb 1 (by decide)).2; have b0 := (hb 0 (by decide)).2
 by_cases c3 : f 3 = g 3
 · rw [if_pos c3] at h3
   refine (dK h3).trans ?_
   by_cases c2 : f 2 = g 2
   · rw [if_pos c2] at h2
     refine (dK h2).trans ?_
     by_cases c1 : f 1 = g 1
     · rw [if_pos c1] at h1
       refine (dK h1).trans ?_
       by_cases c0 : f 0 = g 0
       · rw [if_pos c0] at h0
         refine (dK h0).trans ((cH (a := true) ?_).trans ?_)
         · unfold G.dx; rw [if_neg (by decide)]
         · congr 1; symm; exact decide_eq_true (by unfold val; omega)
       · rw [if_neg c0] at h0
         refine (cH h0).trans ?_
         congr 1; rw [decide_eq_decide]; unfold val; omega
     · rw [if_neg c1] at h1
       refine (cH h1).trans ?_
       congr 1; rw [decide_eq_decide]; unfold val; omega
   · rw [if_neg c2] at h2
     refine (cH h2).trans ?_
     congr 1; rw [decide_eq_decide]; unfold val; omega
 · rw [if_neg c3] at h3
   refine (cH h3).trans ?_
   congr 1; rw [decide_eq_decide]; unfold val; omega
end
theorem xc (w x y z : Nat) (hw : w < 4294967296) (hx : x < 4294967296) (hy : y < 4294967296) (hz : z < 4294967296) :
 ∃ f, vA (ah (ah (ah (ah (fun _ => 0) 0 (w : Int)) 1 (x : Int)) 2 (y : Int)) 3 (z : Int)) f ∧ val f = w + x * 4294967296 + y * 18446744073709551616 + z * 79228162514264337593543950336 := by
 refine ⟨fun i => if i = 0 then w else if i = 1 then x else if i = 2 then y else z, fun i hi => ?_, ?_⟩
 · match i, hi with
   | 0, _ => exact ⟨rfl, hw⟩
   | 1, _ => exact ⟨rfl, hx⟩
   | 2, _ => exact ⟨rfl, hy⟩
   | 3, _ => exact ⟨rfl, hz⟩
 · simp [val]
def Qd (m n : Nat) (c : Bool) : Bool := if c then decide (m * m * m ≤ n * 79228162514264337593543950336) else decide (m * m ≤ n * 18446744073709551616)
theorem Lt {x : Nat} (h : x < 18446744073709551616) : bN .u64 (x : Int) 32 = ((x / 4294967296 : Nat) : Int) ∧ aR .u64 (x : Int) 4294967295 = ((x % 4294967296 : Nat) : Int) := ji h
theorem Hz {m n : Nat} (c : Bool) (hm : m < 68719476736) (hn : n < 4294967296) (hc : c = true → m ≤ 34359738368) : G.gB (m : Int) (n : Int) c = some (Qd m n c) := by
 unfold G.gB Qd
 rw [(Lt (by omega)).1, (Lt (by omega)).2]
 obtain ⟨f, hf, vf⟩ := xc (m % 4294967296) (m / 4294967296) 0 0 (by omega) (by omega) (by decide) (by decide)
 have vf : val f = m := by rw [vf]; omega
 have b1 : val f * m < 340282366920938463463374607431768211456 := by rw [vf]; exact Nat.lt_of_le_of_lt (Nat.mul_le_mul (Nat.le_of_lt hm) (Nat.le_of_lt hm)) (by decide)
 obtain ⟨r, g, e1, hg, vg⟩ := Cu hf hm b1
 have e1' : G.dG (ah (ah (ah (ah (fun _ => 0) 0 ((m % 4294967296 : Nat) : Int)) 1 ((m / 4294967296 : Nat) : Int)) 2 0) 3 0) (m : Int) = some r := e1
 rw [e1']
 simp only [Option.bind_some]
 cases c
 · obtain ⟨h, hh, vh⟩ := xc 0 0 n 0 (by decide) (by decide) hn (by decide)
   simp only [Bool.false_eq_true, if_false, Option.bind_some]
   refine (EX hg hh).trans ?_
   rw [vg, vh, vf]
   congr 1; rw [decide_eq_decide]; omega
 · obtain ⟨h, hh, vh⟩ := xc 0 0 0 n (by decide) (by decide) (by decide) hn
   have hm3 := hc rfl
   have b2 : val g * m < 340282366920938463463374607431768211456 := by rw [vg, vf]; exact Nat.lt_of_le_of_lt (Nat.mul_le_mul (Nat.mul_le_mul hm3 hm3) hm3) (by decide)
   obtain ⟨r2, g2, e2, hg2, vg2⟩ := Cu hg hm b2
   simp only [if_true]
   rw [e2]
   simp only [Option.bind_some]
   refine (EX hg2 hh).trans ?_
   rw [vg2, vg, vh, vf]
   congr 1; rw [decide_eq_decide]; omega
def NS (n : Nat) (c : Bool) : Nat → Nat → Nat → Nat
 | 0, lo, _ => lo
 | k + 1, lo, hi => if hi - lo > 1 then (if Qd ((lo + hi) / 2) n c then NS n c k ((lo + hi) / 2) hi else NS n c k lo ((lo + hi) / 2)) else lo
theorem pK {n : Nat} (c : Bool) (hn : n < 4294967296) : ∀ (k : Nat) {lo hi : Nat}, lo < hi → hi ≤ 68719476736 → (c = true → hi ≤ 34359738368) → hi - lo ≤ 2 ^ k → Iter (G.cX (n : Int) c) ((lo : Int), (hi : Int)) = some (IntKind.u32.wrap (NS n c k lo hi : Int))
 | 0, lo, hi, h1, h2, h3, h4 => by
   refine cH ?_
   unfold G.cX
   rw [qz (by simp only; omega) (by simp only; omega), if_neg (by simp only; omega)]; rfl
 | k + 1, lo, hi, h1, h2, h3, h4 => by
   by_cases h : hi - lo > 1
   · have e1 : IntKind.u64.wrap (Int.tdiv (IntKind.u64.wrap ((lo : Int) + (hi : Int))) 2) = (((lo + hi) / 2 : Nat) : Int) := by
      rw [qz (x := (lo : Int) + (hi : Int)) (by omega) (by omega), Int.tdiv_eq_ediv_of_nonneg (by omega), qz (by omega) (by omega)]; omega
     have e2 := Hz (m := (lo + hi) / 2) c (by omega) hn (fun hc => by have := h3 hc; omega)
     unfold NS
     rw [if_pos h]
     cases hl : Qd ((lo + hi) / 2) n c
     · rw [if_neg (by simp)]
       refine (dK (s' := ((lo : Int), (((lo + hi) / 2 : Nat) : Int))) ?_).trans (pK c hn k (by omega) (by omega) (fun hc => by have := h3 hc; omega) (by rw [Nat.pow_succ] at h4; omega))
       unfold G.cX
       rw [qz (by simp only; omega) (by simp only; omega), if_pos (by simp only; omega), e1, e2, hl]; rfl
     · rw [if_pos rfl]
       refine (dK (s' := ((((lo + hi) / 2 : Nat) : Int), (hi : Int))) ?_).trans (pK c hn k (by omega) (by omega) h3 (by rw [Nat.pow_succ] at h4; omega))
       unfold G.cX
       rw [qz (by simp only; omega) (by simp only; omega), if_pos (by simp only; omega), e1, e2, hl]; rfl
   · unfold NS
     rw [if_neg h]
     refine cH ?_
     unfold G.cX
     rw [qz (by simp only; omega) (by simp only; omega), if_neg (by simp only; omega)]
def rt (n : Nat) (c : Bool) : Nat := NS n c 36 0 (if c then 34359738368 else 68719476736) % 4294967296
theorem Kv {n : Nat} (c : Bool) (hn : n < 4294967296) : G.g7 (n : Int) c = some (rt n c : Int) := by
 unfold G.g7 rt
 have e : ∀ x : Nat, IntKind.u32.wrap (x : Int) = ((x % 4294967296 : Nat) : Int) := fun x => by simp [IntKind.wrap, IntKind.bits, IntKind.signed]
 cases c
 · simp only [Bool.false_eq_true, if_false, Option.bind_some]
   exact (pK (lo := 0) (hi := 68719476736) false hn 36 (by decide) (by decide) (by simp) (by decide)).trans (by rw [e])
 · simp only [if_true, Option.bind_some]
   exact (pK (lo := 0) (hi := 34359738368) true hn 36 (by decide) (by decide) (by simp) (by decide)).trans (by rw [e])
def ints (l : List Nat) : List Int := List.map (fun x : Nat => (x : Int)) l
theorem iU (l : List Nat) : (ints l).length = l.length := by unfold ints; rw [List.length_map]
theorem xe {l : List Nat} {k : Nat} (h : k < l.length) : idx (ints l) (k : Int) = some (l[k] : Int) := by
 rw [dh (by rw [iU]; exact h)]; simp [ints]
theorem Hr (a b : List Nat) : ints (a ++ b) = ints a ++ ints b := by unfold ints; rw [List.map_append]
theorem Ib {l : List Nat} {p : Nat} (hl : ∀ x ∈ l, x ≠ 0) (hn : l.length ≤ 1000) : Iter (G.ew (ints l, (p : Int))) (true, (0 : Int)) = some (l.all fun x => p % x != 0) := by
 refine bA l.length (fun k => ((l.take k).all fun x => p % x != 0, (k : Int))) _ (fun k hk => ?_) ?_ (by simp)
 · unfold G.ew
   have h1 : l[k] ≠ 0 := hl _ (List.getElem_mem hk)
   rw [if_pos (by simp only [iU]; omega), xe hk]
   simp only [Option.bind_some]
   rw [bg (by omega), ea hk (by omega), List.take_succ_eq_append_getElem hk, List.all_append, Int.tmod_eq_emod_of_nonneg (by omega)]
   simp only [Option.bind_some, List.all_cons, List.all_nil, Bool.and_true]
   by_cases h : p % l[k] = 0
   · rw [if_pos (by omega), show (p % l[k] != 0) = false by simp [h], Bool.and_false]
   · rw [if_neg (by omega), show (p % l[k] != 0) = true by simp [h], Bool.and_true]
 · unfold G.ew
   rw [if_neg (by simp [iU]), List.take_length]
def pr (n : Nat) : Nat → List Nat → Nat → Option (List Nat)
 | 0, _, _ => none
 | k + 1, l, p => if l.length < n then pr n k (if l.all fun x => p % x != 0 then l ++ [p] else l) (p + 1) else some l
theorem oE {n : Nat} (hn : n ≤ 1000) : ∀ (k : Nat) {l : List Nat} {p : Nat} {r : List Nat}, (∀ x ∈ l, x ≠ 0) → l.length ≤ n → p ≠ 0 → p + k ≤ 1000000 → pr n k l p = some r → Iter (G.df (n : Int)) (ints l, (p : Int)) = some (ints r)
 | 0, _, _, _, _, _, _, _, h => by cases h
 | k + 1, l, p, r, hl, hk, hp, hpk, h => by
   unfold pr at h
   by_cases hlt : l.length < n
   · rw [if_pos hlt] at h
     have e := Ib (p := p) hl (by omega)
     cases ha : l.all fun x => p % x != 0 with
     | false =>
       rw [ha] at h e
       refine (dK (s' := (ints l, ((p + 1 : Nat) : Int))) ?_).trans (oE hn k hl hk (by omega) (by omega) h)
       unfold G.df
       rw [if_pos (by simp only [iU]; omega), e]
       simp only [Option.bind_some, Bool.false_eq_true, if_false]
       rw [qz (by omega) (by omega)]; rfl
     | true =>
       rw [ha] at h e
       refine (dK (s' := (ints (l ++ [p]), ((p + 1 : Nat) : Int))) ?_).trans (oE hn k (fun x hx => ?_) (by simp; omega) (by omega) (by omega) h)
       · unfold G.df
         rw [if_pos (by simp only [iU]; omega), e]
         simp only [Option.bind_some, if_true]
         rw [eF (by rw [iU]; simp; omega), qz (by omega) (by omega), Hr]; rfl
       · rcases List.mem_append.1 hx with hx | hx
         · exact hl x hx
         · simp at hx; omega
   · rw [if_neg hlt] at h
     cases h
     refine cH ?_
     unfold G.df
     rw [if_neg (by simp only [iU]; omega)]
theorem yR {n : Nat} {c : Bool} {P : List Nat} (hn : n ≤ 1000) (h : pr n 1000 [] 2 = some P) (hP : P.length ≤ 1000) (hb : ∀ x ∈ P, x < 4294967296) : G.dc (n : Int) c = some (P.map fun x => (rt x c : Int)) := by
 unfold G.dc G.iL
 have e := oE hn 1000 (l := []) (p := 2) (by simp) (by simp) (by decide) (by decide) h
 rw [show (([] : List Int), (2 : Int)) = (ints [], ((2 : Nat) : Int)) from rfl, e]
 simp only [Option.bind_some]
 refine bA P.length (fun k => ((P.take k).map fun x => (rt x c : Int), (k : Int))) _ (fun k hk => ?_) ?_ (by simp)
 · unfold G.fc
   rw [if_pos (by simp only [iU]; omega), xe hk]
   simp only [Option.bind_some]
   rw [Kv c (hb _ (List.getElem_mem hk))]
   simp only [Option.bind_some]
   rw [eF (by simp; omega)]
   simp only [Option.bind_some]
   rw [ea hk (by omega), List.take_succ_eq_append_getElem hk, List.map_append]; rfl
 · unfold G.fc
   rw [if_neg (by simp [iU]), List.take_length]
def P8 : List Nat := [2, 3, 5, 7, 11, 13, 17, 19]
def P7 : List Nat := [2, 3, 5, 7, 11, 13, 17, 19, 23, 29, 31, 37, 41, 43, 47, 53, 59, 61, 67, 71, 73, 79, 83, 89, 97, 101, 103, 107, 109, 113, 127, 131, 137, 139, 149, 151, 157, 163, 167, 173, 179, 181, 191, 193, 197, 199, 211, 223, 227, 229, 233, 239, 241, 251, 257, 263, 269, 271, 277, 281, 283, 293, 307, 311]
theorem Rb : pr 8 1000 [] 2 = some P8 := by kernel_rfl
theorem QA : pr 64 1000 [] 2 = some P7 := by kernel_rfl
theorem Qv : ((P8 ++ P7).all fun x => decide (x < 4294967296)) = true := by kernel_rfl
def S8 : List Nat := P8.map fun x => rt x false
def E3 : List Nat := P7.map fun x => rt x true
theorem GN : G.gz = some ⟨ints S8, ints E3⟩ := by
 have hb : ∀ x ∈ P8 ++ P7, x < 4294967296 := fun x hx => of_decide_eq_true (List.all_eq_true.1 Qv x hx)
 have e1 := yR (c := false) (n := 8) (by decide) Rb (by decide) (fun x hx => hb x (List.mem_append.2 (.inl hx)))
 have e2 := yR (c := true) (n := 64) (by decide) QA (by decide) (fun x hx => hb x (List.mem_append.2 (.inr hx)))
 unfold G.gz
 rw [show (8 : Int) = ((8 : Nat) : Int) from rfl, e1, show (64 : Int) = ((64 : Nat) : Int) from rfl, e2]
 simp only [Option.bind_some, S8, E3, List.map_map]
 rfl
theorem LV : ∀ w, G.iY = some w → (List.range 64).map w = ints E3 := by
 have e : (G.iY.map fun w => (List.range 64).map w) = some (ints E3) := by kernel_rfl
 intro w h
 rw [h] at e
 exact Option.some.inj e
end G
end Go.Proofs.YtekpafdhgkocaaaGreat
