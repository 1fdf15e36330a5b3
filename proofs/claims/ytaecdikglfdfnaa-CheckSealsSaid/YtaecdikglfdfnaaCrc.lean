/- The plain law of CRC-32, bit by bit and by a table of 16 entries; no program in sight. -/
import Derived.Laws.Entries
import Derived.IntWalk
namespace Go.Proofs.Ytaecdikglfdfnaa
namespace Crc
abbrev W := BitVec 32
def poly : W := 0xEDB88320#32
/-- one bit -/
def step (x : W) : W := (x >>> 1) ^^^ (poly &&& (-(x &&& 1#32)))
def steps : Nat → W → W
  | 0, x => x
  | n + 1, x => steps n (step x)
def byte (r : W) (c : BitVec 8) : W := steps 8 (r ^^^ c.setWidth 32)
def reg (r : W) (bs : List (BitVec 8)) : W := bs.foldl byte r
def ext (s : W) (bs : List (BitVec 8)) : W := ~~~ (reg (~~~ s) bs)
def of (bs : List (BitVec 8)) : W := ext 0 bs
def tab (i : Nat) : W := steps 4 (BitVec.ofNat 32 i)
def nib (r : W) : W := (r >>> 4) ^^^ tab (r &&& 15#32).toNat

theorem step_xor (x y : W) : step (x ^^^ y) = step x ^^^ step y := by
  unfold step
  have h1 : (x ^^^ y) >>> 1 = (x >>> 1) ^^^ (y >>> 1) := BitVec.ushiftRight_xor_distrib ..
  have h2 : ∀ z : W, -(z &&& 1#32) = if z.getLsbD 0 then 0xFFFFFFFF#32 else 0#32 := by
    intro z
    have : z &&& 1#32 = if z.getLsbD 0 then 1#32 else 0#32 := by
      apply BitVec.eq_of_getLsbD_eq
      intro i hi
      cases hz : z.getLsbD 0 <;> by_cases h0 : i = 0 <;> simp_all
    rw [this]; split <;> rfl
  rw [h1, h2, h2, h2]
  simp only [BitVec.getLsbD_xor]
  cases x.getLsbD 0 <;> cases y.getLsbD 0 <;> simp [poly] <;> (try ac_rfl) <;> (try (apply BitVec.eq_of_getLsbD_eq; intro i hi; simp; grind))
theorem steps_xor (n : Nat) : ∀ (x y : W), steps n (x ^^^ y) = steps n x ^^^ steps n y := by
  induction n with
  | zero => intro x y; rfl
  | succ n ih => intro x y; simp only [steps, step_xor, ih]
theorem steps_add (m n : Nat) : ∀ x : W, steps (m + n) x = steps n (steps m x) := by
  induction m with
  | zero => intro x; simp [steps]
  | succ m ih => intro x; rw [show m + 1 + n = (m + n) + 1 by omega]; simp only [steps, ih]
theorem step_even (x : W) (h : x.getLsbD 0 = false) : step x = x >>> 1 := by
  have h1 : x &&& 1#32 = 0#32 := by
    apply BitVec.eq_of_getLsbD_eq
    intro i hi
    by_cases h0 : i = 0
    · subst h0; rw [BitVec.getLsbD_and, h]; rfl
    · simp [BitVec.getLsbD_one, h0]
  unfold step
  rw [h1]
  simp
theorem steps_even (n : Nat) : ∀ x : W, (∀ i, i < n → x.getLsbD i = false) → steps n x = x >>> n := by
  induction n with
  | zero => intro x _; simp [steps]
  | succ n ih =>
    intro x h
    rw [steps, step_even x (h 0 (by omega)), ih _ (fun i hi => by rw [BitVec.getLsbD_ushiftRight]; exact h _ (by omega))]
    rw [← BitVec.shiftRight_add, Nat.add_comm]
theorem nib_eq (r : W) : nib r = steps 4 r := by
  have hr : r = (r &&& 0xFFFFFFF0#32) ^^^ (r &&& 15#32) := by
    apply BitVec.eq_of_getLsbD_eq
    intro i hi
    have : (0xFFFFFFF0#32).getLsbD i = !(15#32).getLsbD i := by
      revert hi; revert i; decide
    rw [BitVec.getLsbD_xor, BitVec.getLsbD_and, BitVec.getLsbD_and, this]
    cases r.getLsbD i <;> cases (15#32).getLsbD i <;> rfl
  have h1 : steps 4 (r &&& 0xFFFFFFF0#32) = r >>> 4 := by
    rw [steps_even 4 _ (by
      intro i hi
      rw [BitVec.getLsbD_and]
      have : i = 0 ∨ i = 1 ∨ i = 2 ∨ i = 3 := by omega
      rcases this with rfl | rfl | rfl | rfl <;> simp)]
    apply BitVec.eq_of_getLsbD_eq
    intro i hi
    simp only [BitVec.getLsbD_ushiftRight, BitVec.getLsbD_and]
    by_cases h : 4 + i < 32
    · have : (0xFFFFFFF0#32).getLsbD (4 + i) = true := by
        have : i < 28 := by omega
        revert this
        revert i
        decide
      simp [this]
    · rw [BitVec.getLsbD_of_ge r _ (by omega)]; rfl
  have h2 : tab (r &&& 15#32).toNat = steps 4 (r &&& 15#32) := by
    unfold tab
    rw [BitVec.ofNat_toNat]
    simp
  unfold nib
  rw [h2, ← h1, ← steps_xor, ← hr]
theorem byte_nib (r : W) (c : BitVec 8) : nib (nib (r ^^^ c.setWidth 32)) = byte r c := by
  rw [nib_eq, nib_eq, ← steps_add]; rfl
theorem ext_append (s : W) (a b : List (BitVec 8)) : ext s (a ++ b) = ext (ext s a) b := by
  simp [ext, reg, List.foldl_append]
theorem steps_zero (n : Nat) : steps n 0#32 = 0#32 := by
  have := steps_xor n 0#32 0#32
  simpa using this
theorem byte_xor (r s : W) (a b : BitVec 8) : byte (r ^^^ s) (a ^^^ b) = byte r a ^^^ byte s b := by
  unfold byte
  rw [← steps_xor]
  congr 1
  rw [show (a ^^^ b).setWidth 32 = a.setWidth 32 ^^^ b.setWidth 32 by simp]
  ac_rfl
theorem reg_xor : ∀ (a b : List (BitVec 8)) (r s : W), a.length = b.length → reg (r ^^^ s) (List.zipWith (· ^^^ ·) a b) = reg r a ^^^ reg s b
  | [], [], r, s, _ => rfl
  | x :: a, y :: b, r, s, h => by
    simp only [List.zipWith_cons_cons, reg, List.foldl_cons, byte_xor]
    exact reg_xor a b _ _ (by simpa using h)
theorem step_zero_inv (x : W) (h : step x = 0#32) : x = 0#32 := by
  by_cases h0 : x.getLsbD 0 = true
  · exfalso
    have h1 : x &&& 1#32 = 1#32 := by
      apply BitVec.eq_of_getLsbD_eq
      intro i hi
      by_cases e : i = 0
      · subst e; rw [BitVec.getLsbD_and, h0]; rfl
      · simp [BitVec.getLsbD_one, e]
    have h2 : (step x).getLsbD 31 = true := by
      unfold step
      rw [h1, BitVec.getLsbD_xor, BitVec.getLsbD_ushiftRight, BitVec.getLsbD_of_ge x (1 + 31) (by omega)]
      decide
    rw [h] at h2
    simp at h2
  · have h0' : x.getLsbD 0 = false := by simpa using h0
    rw [step_even x h0'] at h
    apply BitVec.eq_of_getLsbD_eq
    intro i hi
    cases i with
    | zero => rw [h0']; simp
    | succ i =>
      have := congrArg (fun y => BitVec.getLsbD y i) h
      simp only [BitVec.getLsbD_ushiftRight] at this
      rw [Nat.add_comm, this]; simp
theorem steps_zero_inv (n : Nat) : ∀ x : W, steps n x = 0#32 → x = 0#32 := by
  induction n with
  | zero => intro x h; exact h
  | succ n ih => intro x h; exact step_zero_inv x (ih _ h)
theorem reg_zeros (m : Nat) : ∀ r : W, reg r (List.replicate m 0#8) = steps (8 * m) r := by
  induction m with
  | zero => intro r; rfl
  | succ m ih =>
    intro r
    rw [List.replicate_succ]
    show reg (byte r 0#8) (List.replicate m 0#8) = _
    rw [ih, show 8 * (m + 1) = 8 + 8 * m by omega, steps_add]
    unfold byte; simp
/-- k zero bytes, the byte c, m zero bytes -/
theorem reg_one (k m : Nat) (c : BitVec 8) : reg 0#32 (List.replicate k 0#8 ++ c :: List.replicate m 0#8) = steps (8 * (m + 1)) (c.setWidth 32) := by
  unfold reg
  rw [List.foldl_append]
  have h1 : List.foldl byte 0#32 (List.replicate k 0#8) = 0#32 := by
    have := reg_zeros k 0#32
    rw [steps_zero] at this; exact this
  rw [h1, List.foldl_cons]
  show reg (byte 0#32 c) (List.replicate m 0#8) = _
  rw [reg_zeros, show 8 * (m + 1) = 8 + 8 * m by omega, steps_add]
  unfold byte; simp
theorem ext_xor_zero (s : W) (a e : List (BitVec 8)) (h : a.length = e.length) : ext s (List.zipWith (· ^^^ ·) a e) = ext s a ^^^ reg 0#32 e := by
  unfold ext
  have := reg_xor a e (~~~ s) 0#32 h
  simp only [BitVec.xor_zero] at this
  rw [this]
  apply BitVec.eq_of_getLsbD_eq
  intro i hi
  simp [hi]
end Crc
end Go.Proofs.Ytaecdikglfdfnaa
