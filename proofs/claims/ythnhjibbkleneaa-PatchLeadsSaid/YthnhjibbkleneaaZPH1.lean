/- Part of what the laws need: plain words, the walker and its laws, the program's functions. -/
import Derived.Test.YthnhjibbkleneaaZPBase
import Derived.Test.YthnhjibbkleneaaZEG
import Derived.KernelRfl
namespace Go.Proofs.Ythnhjibbkleneaa
open G
namespace G
theorem wu_nn (x : Int) : 0 ≤ IntKind.u64.wrap x := by
  simp [IntKind.wrap, IntKind.bits, IntKind.signed]; omega
theorem bandu_nn (a b : Int) : 0 ≤ band .u64 a b := wu_nn _
theorem rot_ex (a c : Int) : ∃ r, G.math_bits_RotateLeft32 a c = some r := by
  unfold G.math_bits_RotateLeft32
  rw [chk_of (bandu_nn _ _), chk_of (wu_nn _)]
  exact ⟨_, rfl⟩
theorem band15 : ((List.range 100).all fun i => decide (0 ≤ band .i64 (i : Int) 15) && decide (band .i64 (i : Int) 15 < 16)) = true := by kernel_rfl
theorem band15_of {i : Nat} (h : i < 100) : 0 ≤ band .i64 (i : Int) 15 ∧ band .i64 (i : Int) 15 < 16 := by
  have := List.all_eq_true.1 band15 i (List.mem_range.2 h)
  simpa using this
theorem wr {x : Int} {k : Nat} (h : x = (k : Int)) (hk : k ≤ 9223372036854775807) : IntKind.i64.wrap x = (k : Int) := by rw [h]; exact wrap_nat hk
theorem block1_ex (b : List UInt8) (h : 64 ≤ b.length) : ∃ w, Iter (G.sha_state_block_l1 b) ((0 : Int), (fun _ => 0)) = some w := by
  obtain ⟨r, hr, _⟩ := Iter_total (f := G.sha_state_block_l1 b) (fun m s => ∃ i : Nat, s.1 = (i : Int) ∧ i ≤ 16 ∧ m = 16 - i) (fun _ => True) (by
    rintro m ⟨_, w⟩ ⟨i, hi, h16, rfl⟩
    simp only at hi; subst hi
    unfold G.sha_state_block_l1
    by_cases hlt : i < 16
    · left
      rw [if_pos (by simp only; omega)]
      simp only [wr (k := 4 * i) (show (4 : Int) * (i : Int) = ((4 * i : Nat) : Int) by omega) (by omega)]
      rw [wr (k := 4 * i + 1) (by omega) (by omega), wr (k := 4 * i + 2) (by omega) (by omega), wr (k := 4 * i + 3) (by omega) (by omega), idx_of (by omega), idx_of (by omega), idx_of (by omega), idx_of (by omega)]
      simp only [Option.bind_some]
      rw [chk_of (by omega), wr (k := i + 1) (by omega) (by omega)]
      exact ⟨16 - (i + 1), _, rfl, by omega, i + 1, rfl, by omega, rfl⟩
    · right
      rw [if_neg (by simp only; omega)]
      exact ⟨_, rfl, trivial⟩) 16 ((0 : Int), (fun _ => 0)) ⟨0, rfl, by omega, rfl⟩
  exact ⟨r, hr⟩
theorem block2_ex (y : Nat → Int) (w v : Nat → Int) : ∃ r, Iter (G.sha_state_block_l2 y) ((0 : Int), w, v) = some r := by
  obtain ⟨r, hr, _⟩ := Iter_total (f := G.sha_state_block_l2 y) (fun m s => ∃ i : Nat, s.1 = (i : Int) ∧ i ≤ 64 ∧ m = 64 - i) (fun _ => True) (by
    rintro m ⟨_, w, v⟩ ⟨i, hi, h16, rfl⟩
    simp only at hi; subst hi
    unfold G.sha_state_block_l2
    by_cases hlt : i < 64
    · left
      rw [if_pos (by simp only; omega)]
      simp only [wr (k := i + 1) (show (i : Int) + 1 = ((i + 1 : Nat) : Int) by omega) (by omega), wr (k := i + 14) (show (i : Int) + 14 = ((i + 14 : Nat) : Int) by omega) (by omega), wr (k := i + 9) (show (i : Int) + 9 = ((i + 9 : Nat) : Int) by omega) (by omega)]
      rw [chk_of (by omega)]
      simp only [Option.bind_some]
      obtain ⟨a1, e1⟩ := rot_ex (v 4) (-6); obtain ⟨a2, e2⟩ := rot_ex (v 4) (-11); obtain ⟨a3, e3⟩ := rot_ex (v 4) (-25)
      obtain ⟨a4, e4⟩ := rot_ex (v 0) (-2); obtain ⟨a5, e5⟩ := rot_ex (v 0) (-13); obtain ⟨a6, e6⟩ := rot_ex (v 0) (-22)
      rw [e1, e2, e3, e4, e5, e6]
      simp only [Option.bind_some]
      rw [chk_of (band15_of (i := i) (by omega))]
      simp only [Option.bind_some]
      by_cases h16 : 16 ≤ i
      · rw [if_pos (by omega), chk_of (band15_of (i := i + 1) (by omega)), chk_of (band15_of (i := i + 14) (by omega)), chk_of (band15_of (i := i + 9) (by omega))]
        obtain ⟨b1, f1⟩ := rot_ex (getArr w (band .i64 ((i + 1 : Nat) : Int) 15)) (-7); obtain ⟨b2, f2⟩ := rot_ex (getArr w (band .i64 ((i + 1 : Nat) : Int) 15)) (-18)
        obtain ⟨b3, f3⟩ := rot_ex (getArr w (band .i64 ((i + 14 : Nat) : Int) 15)) (-17); obtain ⟨b4, f4⟩ := rot_ex (getArr w (band .i64 ((i + 14 : Nat) : Int) 15)) (-19)
        rw [f1, f2, f3, f4]
        simp only [Option.bind_some]
        rw [chk_of (by decide), chk_of (by decide)]
        exact ⟨64 - (i + 1), _, rfl, by omega, i + 1, rfl, by omega, rfl⟩
      · rw [if_neg (by omega)]
        simp only [Option.bind_some]
        rw [chk_of (by decide), chk_of (by decide)]
        exact ⟨64 - (i + 1), _, rfl, by omega, i + 1, rfl, by omega, rfl⟩
    · right
      rw [if_neg (by simp only; omega)]
      exact ⟨_, rfl, trivial⟩) 64 ((0 : Int), w, v) ⟨0, rfl, by omega, rfl⟩
  exact ⟨r, hr⟩
def addW (v w : Nat → Int) : Nat → (Nat → Int)
  | 0 => w
  | k + 1 => setArr (addW v w k) (k : Int) (IntKind.u32.wrap ((getArr (addW v w k) (k : Int)) + (getArr v (k : Int))))
theorem block3_of (v w : Nat → Int) (r : List UInt8) (n : Int) : Iter (G.sha_state_block_l3 v) ((0 : Int), w, r, n) = some (addW v w 8, r, n) := by
  refine Iter_count 8 (fun k => ((k : Int), addW v w k, r, n)) _ (fun k hk => ?_) ?_ rfl
  · unfold G.sha_state_block_l3
    rw [if_pos (by simp only; omega), chk_of (by simp only; omega)]
    simp only [Option.bind_some]
    rw [wr (k := k + 1) (by omega) (by omega)]; rfl
  · unfold G.sha_state_block_l3
    rw [if_neg (by simp only; omega)]
theorem block_ex (b : List UInt8) (h : 64 ≤ b.length) (w : Nat → Int) : ∃ w', ∀ r n, G.sha_state_block b w r n = some (w', r, n) := by
  obtain ⟨v1, h1⟩ := block1_ex b h
  obtain ⟨y, hy⟩ : ∃ y, G.sha_keys = some y := ⟨_, rfl⟩
  obtain ⟨v2, h2⟩ := block2_ex y v1 w
  refine ⟨addW v2 w 8, fun r n => ?_⟩
  unfold G.sha_state_block
  rw [h1, hy]
  simp only [Option.bind_some]
  rw [h2]
  exact block3_of _ _ _ _
noncomputable def blkW (b : List UInt8) (w : Nat → Int) : Nat → Int := if h : 64 ≤ b.length then (block_ex b h w).choose else w
theorem block_of {b : List UInt8} (h : 64 ≤ b.length) (w : Nat → Int) (r : List UInt8) (n : Int) : G.sha_state_block b w r n = some (blkW b w, r, n) := by
  unfold blkW; rw [dif_pos h]; exact (block_ex b h w).choose_spec r n
noncomputable def tS (w : Nat → Int) (r : List UInt8) : (Nat → Int) × List UInt8 := if 64 ≤ r.length then tS (blkW (r.take 64) w) (r.drop 64) else (w, r)
termination_by r.length
decreasing_by rw [List.length_drop]; omega
theorem tS_lt {w : Nat → Int} {r : List UInt8} (h : ¬ 64 ≤ r.length) : tS w r = (w, r) := by rw [tS, if_neg h]
theorem tS_ge {w : Nat → Int} {r : List UInt8} (h : 64 ≤ r.length) : tS w r = tS (blkW (r.take 64) w) (r.drop 64) := by rw [tS, if_pos h]
theorem tS_len (k : Nat) : ∀ (w : Nat → Int) (r : List UInt8), r.length ≤ k → (tS w r).2.length < 64 ∧ (tS w r).2.length ≤ r.length := by
  induction k using Nat.strongRecOn with
  | _ k ih =>
    intro w r hr
    by_cases h : 64 ≤ r.length
    · rw [tS_ge h]
      have hd : (r.drop 64).length = r.length - 64 := by rw [List.length_drop]
      have := ih (k - 64) (by omega) (blkW (r.take 64) w) (r.drop 64) (by omega)
      omega
    · rw [tS_lt h]; exact ⟨Nat.lt_of_not_le h, Nat.le_refl _⟩
theorem tS_app (k : Nat) : ∀ (w : Nat → Int) (r b : List UInt8), r.length ≤ k → tS w (r ++ b) = tS (tS w r).1 ((tS w r).2 ++ b) := by
  induction k using Nat.strongRecOn with
  | _ k ih =>
    intro w r b hr
    by_cases h : 64 ≤ r.length
    · rw [tS_ge h, tS_ge (r := r ++ b) (by rw [List.length_append]; omega), List.take_append_of_le_length h, List.drop_append_of_le_length h]
      exact ih (k - 64) (by omega) _ _ _ (by rw [List.length_drop]; omega)
    · rw [tS_lt h]
theorem takeL_of (k : Nat) : ∀ (w : Nat → Int) (r : List UInt8) (n : Int), r.length ≤ k → Iter G.sha_state_take_l1 (w, r, n) = some ((tS w r).1, (tS w r).2, n) := by
  induction k using Nat.strongRecOn with
  | _ k ih =>
    intro w r n hr
    by_cases h : 64 ≤ r.length
    · rw [Iter_inl (s' := (blkW (r.take 64) w, r.drop 64, n)) ?_, tS_ge h]
      · exact ih (k - 64) (by omega) _ _ _ (by rw [List.length_drop]; omega)
      · unfold G.sha_state_take_l1
        rw [if_pos (by simp only; omega), slcTo_of (by simp only; omega)]
        simp only [Option.bind_some]
        rw [show (64 : Int).toNat = 64 from rfl, block_of (by rw [List.length_take]; omega)]
        simp only [Option.bind_some]
        rw [slcFrom_of (by omega)]; rfl
    · rw [tS_lt h]
      refine Iter_inr ?_
      unfold G.sha_state_take_l1
      rw [if_neg (by simp only; omega)]
theorem take_of (b : List UInt8) (w : Nat → Int) (r : List UInt8) (n : Int) (h : r.length + b.length ≤ 140737488355328) : G.sha_state_take b w r n = some ((tS w (r ++ b)).1, (tS w (r ++ b)).2, IntKind.i64.wrap (n + (b.length : Int))) := by
  unfold G.sha_state_take
  rw [app_of (by omega)]
  exact takeL_of _ _ _ _ (Nat.le_refl _)
theorem takex_eq : G.sha_state_takex = G.sha_state_take := by kernel_rfl
end G
end Go.Proofs.Ythnhjibbkleneaa
