/- Part of what the laws need: plain words, the walker and its laws, the program's functions. -/
import Derived.Test.YtekpafdhgkocaaaGreatZPBase
import Derived.Test.YtekpafdhgkocaaaGreatZEG
import Derived.KernelRfl
namespace Go.Proofs.YtekpafdhgkocaaaGreat
open G
namespace G
theorem LK (x : Int) : 0 ≤ IntKind.u64.wrap x := by
 simp [IntKind.wrap, IntKind.bits, IntKind.signed]; omega
theorem GW (a b : Int) : 0 ≤ aR .u64 a b := LK _
theorem mo (a c : Int) : ∃ r, G.aa a c = some r := by
 unfold G.aa
 rw [bg (GW _ _), bg (LK _)]
 exact ⟨_, rfl⟩
theorem Ma : ((List.range 100).all fun i => decide (0 ≤ aR .i64 (i : Int) 15) && decide (aR .i64 (i : Int) 15 < 16)) = true := by kernel_rfl
theorem pn {i : Nat} (h : i < 100) : 0 ≤ aR .i64 (i : Int) 15 ∧ aR .i64 (i : Int) 15 < 16 := by
 have := List.all_eq_true.1 Ma i (List.mem_range.2 h)
 simpa using this
theorem wr {x : Int} {k : Nat} (h : x = (k : Int)) (hk : k ≤ 9223372036854775807) : IntKind.i64.wrap x = (k : Int) := by rw [h]; exact yi hk
theorem Fb (b : List UInt8) (h : 64 ≤ b.length) : ∃ w, Iter (G.cA b) ((0 : Int), (fun _ => 0)) = some w := by
 obtain ⟨r, hr, _⟩ := bP (f := G.cA b) (fun m s => ∃ i : Nat, s.1 = (i : Int) ∧ i ≤ 16 ∧ m = 16 - i) (fun _ => True) (by
  rintro m ⟨_, w⟩ ⟨i, hi, h16, rfl⟩
  simp only at hi; subst hi
  unfold G.cA
  by_cases hlt : i < 16
  · left
    rw [if_pos (by simp only; omega)]
    simp only [wr (k := 4 * i) (show (4 : Int) * (i : Int) = ((4 * i : Nat) : Int) by omega) (by omega)]
    rw [wr (k := 4 * i + 1) (by omega) (by omega), wr (k := 4 * i + 2) (by omega) (by omega), wr (k := 4 * i + 3) (by omega) (by omega), dh (by omega), dh (by omega), dh (by omega), dh (by omega)]
    simp only [Option.bind_some]
    rw [bg (by omega), wr (k := i + 1) (by omega) (by omega)]
    exact ⟨16 - (i + 1), _, rfl, by omega, i + 1, rfl, by omega, rfl⟩
  · right
    rw [if_neg (by simp only; omega)]
    exact ⟨_, rfl, trivial⟩) 16 ((0 : Int), (fun _ => 0)) ⟨0, rfl, by omega, rfl⟩
 exact ⟨r, hr⟩
theorem Fc (y : Nat → Int) (w v : Nat → Int) : ∃ r, Iter (G.cB y) ((0 : Int), w, v) = some r := by
 obtain ⟨r, hr, _⟩ := bP (f := G.cB y) (fun m s => ∃ i : Nat, s.1 = (i : Int) ∧ i ≤ 64 ∧ m = 64 - i) (fun _ => True) (by
  rintro m ⟨_, w, v⟩ ⟨i, hi, h16, rfl⟩
  simp only at hi; subst hi
  unfold G.cB
  by_cases hlt : i < 64
  · left
    rw [if_pos (by simp only; omega)]
    simp only [wr (k := i + 1) (show (i : Int) + 1 = ((i + 1 : Nat) : Int) by omega) (by omega), wr (k := i + 14) (show (i : Int) + 14 = ((i + 14 : Nat) : Int) by omega) (by omega), wr (k := i + 9) (show (i : Int) + 9 = ((i + 9 : Nat) : Int) by omega) (by omega)]
    rw [bg (by omega)]
    simp only [Option.bind_some]
    obtain ⟨a1, e1⟩ := mo (v 4) (-6); obtain ⟨a2, e2⟩ := mo (v 4) (-11); obtain ⟨a3, e3⟩ := mo (v 4) (-25)
    obtain ⟨a4, e4⟩ := mo (v 0) (-2); obtain ⟨a5, e5⟩ := mo (v 0) (-13); obtain ⟨a6, e6⟩ := mo (v 0) (-22)
    rw [e1, e2, e3, e4, e5, e6]
    simp only [Option.bind_some]
    rw [bg (pn (i := i) (by omega))]
    simp only [Option.bind_some]
    by_cases h16 : 16 ≤ i
    · rw [if_pos (by omega), bg (pn (i := i + 1) (by omega)), bg (pn (i := i + 14) (by omega)), bg (pn (i := i + 9) (by omega))]
      obtain ⟨b1, f1⟩ := mo (aD w (aR .i64 ((i + 1 : Nat) : Int) 15)) (-7); obtain ⟨b2, f2⟩ := mo (aD w (aR .i64 ((i + 1 : Nat) : Int) 15)) (-18)
      obtain ⟨b3, f3⟩ := mo (aD w (aR .i64 ((i + 14 : Nat) : Int) 15)) (-17); obtain ⟨b4, f4⟩ := mo (aD w (aR .i64 ((i + 14 : Nat) : Int) 15)) (-19)
      rw [f1, f2, f3, f4]
      simp only [Option.bind_some]
      rw [bg (by decide), bg (by decide)]
      exact ⟨64 - (i + 1), _, rfl, by omega, i + 1, rfl, by omega, rfl⟩
    · rw [if_neg (by omega)]
      simp only [Option.bind_some]
      rw [bg (by decide), bg (by decide)]
      exact ⟨64 - (i + 1), _, rfl, by omega, i + 1, rfl, by omega, rfl⟩
  · right
    rw [if_neg (by simp only; omega)]
    exact ⟨_, rfl, trivial⟩) 64 ((0 : Int), w, v) ⟨0, rfl, by omega, rfl⟩
 exact ⟨r, hr⟩
def Bh (v w : Nat → Int) : Nat → (Nat → Int)
 | 0 => w
 | k + 1 => ah (Bh v w k) (k : Int) (IntKind.u32.wrap ((aD (Bh v w k) (k : Int)) + (aD v (k : Int))))
theorem yQ (v w : Nat → Int) (r : List UInt8) (n : Int) : Iter (G.fA v) ((0 : Int), w, r, n) = some (Bh v w 8, r, n) := by
 refine bA 8 (fun k => ((k : Int), Bh v w k, r, n)) _ (fun k hk => ?_) ?_ rfl
 · unfold G.fA
   rw [if_pos (by simp only; omega), bg (by simp only; omega)]
   simp only [Option.bind_some]
   rw [wr (k := k + 1) (by omega) (by omega)]; rfl
 · unfold G.fA
   rw [if_neg (by simp only; omega)]
theorem Bq (b : List UInt8) (h : 64 ≤ b.length) (w : Nat → Int) : ∃ w', ∀ r n, G.dt b w r n = some (w', r, n) := by
 obtain ⟨v1, h1⟩ := Fb b h
 obtain ⟨y, hy⟩ : ∃ y, G.iY = some y := ⟨_, rfl⟩
 obtain ⟨v2, h2⟩ := Fc y v1 w
 refine ⟨Bh v2 w 8, fun r n => ?_⟩
 unfold G.dt
 rw [h1, hy]
 simp only [Option.bind_some]
 rw [h2]
 exact yQ _ _ _ _
noncomputable def CQ (b : List UInt8) (w : Nat → Int) : Nat → Int := if h : 64 ≤ b.length then (Bq b h w).choose else w
theorem Br {b : List UInt8} (h : 64 ≤ b.length) (w : Nat → Int) (r : List UInt8) (n : Int) : G.dt b w r n = some (CQ b w, r, n) := by
 unfold CQ; rw [dif_pos h]; exact (Bq b h w).choose_spec r n
noncomputable def tS (w : Nat → Int) (r : List UInt8) : (Nat → Int) × List UInt8 := if 64 ≤ r.length then tS (CQ (r.take 64) w) (r.drop 64) else (w, r)
termination_by r.length
decreasing_by rw [List.length_drop]; omega
theorem zL {w : Nat → Int} {r : List UInt8} (h : ¬ 64 ≤ r.length) : tS w r = (w, r) := by rw [tS, if_neg h]
theorem zJ {w : Nat → Int} {r : List UInt8} (h : 64 ≤ r.length) : tS w r = tS (CQ (r.take 64) w) (r.drop 64) := by rw [tS, if_pos h]
theorem DN (k : Nat) : ∀ (w : Nat → Int) (r : List UInt8), r.length ≤ k → (tS w r).2.length < 64 ∧ (tS w r).2.length ≤ r.length := by
 induction k using Nat.strongRecOn with
 | _ k ih =>
   intro w r hr
   by_cases h : 64 ≤ r.length
   · rw [zJ h]
     have hd : (r.drop 64).length = r.length - 64 := by rw [List.length_drop]
     have := ih (k - 64) (by omega) (CQ (r.take 64) w) (r.drop 64) (by omega)
     omega
   · rw [zL h]; exact ⟨Nat.lt_of_not_le h, Nat.le_refl _⟩
theorem I1 (k : Nat) : ∀ (w : Nat → Int) (r b : List UInt8), r.length ≤ k → tS w (r ++ b) = tS (tS w r).1 ((tS w r).2 ++ b) := by
 induction k using Nat.strongRecOn with
 | _ k ih =>
   intro w r b hr
   by_cases h : 64 ≤ r.length
   · rw [zJ h, zJ (r := r ++ b) (by rw [List.length_append]; omega), List.take_append_of_le_length h, List.drop_append_of_le_length h]
     exact ih (k - 64) (by omega) _ _ _ (by rw [List.length_drop]; omega)
   · rw [zL h]
theorem I2 (k : Nat) : ∀ (w : Nat → Int) (r : List UInt8) (n : Int), r.length ≤ k → Iter G.fX (w, r, n) = some ((tS w r).1, (tS w r).2, n) := by
 induction k using Nat.strongRecOn with
 | _ k ih =>
   intro w r n hr
   by_cases h : 64 ≤ r.length
   · rw [dK (s' := (CQ (r.take 64) w, r.drop 64, n)) ?_, zJ h]
     · exact ih (k - 64) (by omega) _ _ _ (by rw [List.length_drop]; omega)
     · unfold G.fX
       rw [if_pos (by simp only; omega), lu (by simp only; omega)]
       simp only [Option.bind_some]
       rw [show (64 : Int).toNat = 64 from rfl, Br (by rw [List.length_take]; omega)]
       simp only [Option.bind_some]
       rw [rC (by omega)]; rfl
   · rw [zL h]
     refine cH ?_
     unfold G.fX
     rw [if_neg (by simp only; omega)]
theorem AP (b : List UInt8) (w : Nat → Int) (r : List UInt8) (n : Int) (h : r.length + b.length ≤ 140737488355328) : G.gk b w r n = some ((tS w (r ++ b)).1, (tS w (r ++ b)).2, IntKind.i64.wrap (n + (b.length : Int))) := by
 unfold G.gk
 rw [eF (by omega)]
 exact I2 _ _ _ _ (Nat.le_refl _)
theorem Ct : G.kb = G.gk := by kernel_rfl
end G
end Go.Proofs.YtekpafdhgkocaaaGreat
