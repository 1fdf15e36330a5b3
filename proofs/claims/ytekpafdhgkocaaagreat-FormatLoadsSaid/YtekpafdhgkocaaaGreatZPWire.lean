/- Part of what the laws need: plain words, the walker and its laws, the program's functions. -/
import Derived.Test.YtekpafdhgkocaaaGreatZPure
namespace Go.Proofs.YtekpafdhgkocaaaGreat
open G
theorem sF {α : Type} (l : List α) (i : Nat) (d : α) (h : i < l.length) : l.getD i d = l[i] := by simp [h]
structure RS where
 bs : List UInt8
 at_ : Nat
 code : Int
 pos : Int
namespace RS
def fail (s : RS) (code pos : Int) : RS := if s.code = 0 ∧ code ≠ 0 then { s with code := code, pos := pos } else s
def take (s : RS) (n : Int) : Option (List UInt8) × RS :=
 if s.code ≠ 0 then (none, s)
 else if n < 0 then (none, s.fail 2 s.at_)
 else if (s.bs.length : Int) - s.at_ < n then (none, s.fail 8 s.bs.length)
 else (some ((s.bs.drop s.at_).take n.toNat), { s with at_ := s.at_ + n.toNat })
def Ok (s : RS) : Prop := s.at_ ≤ s.bs.length
def num (l : List UInt8) : Nat := l.foldl (fun x c => 256 * x + c.toNat) 0
def size (n : Int) : Int := if n < 1 ∨ 8 < n then -1 else n
def uint (s : RS) (n : Int) : Nat × RS :=
 match s.take (size n) with
 | (some l, s') => (num l, s')
 | (none, s') => (0, s')
def length (s : RS) : Int × RS :=
 if 4611686018427387903 < (s.uint 8).1 then (0, (s.uint 8).2.fail 2 s.at_) else (((s.uint 8).1 : Int), (s.uint 8).2)
def bytes (s : RS) (n : Int) : List UInt8 × RS :=
 match s.take n with
 | (some l, s') => (l, s')
 | (none, s') => ([], s')
def expect (s : RS) (b : List UInt8) (code : Int) : Bool × RS :=
 if s.code ≠ 0 then (false, s)
 else if ((s.bs.drop s.at_).take b.length) ≠ b.take ((s.bs.drop s.at_).take b.length).length then (false, s.fail code s.at_)
 else ((s.take b.length).1.isSome, (s.take b.length).2)
theorem gw (s : RS) (c p : Int) : (s.fail c p).bs = s.bs ∧ (s.fail c p).at_ = s.at_ := by unfold fail; split <;> exact ⟨rfl, rfl⟩
theorem Eg (s : RS) (h : s.Ok) (c p : Int) : (s.fail c p).Ok := by unfold Ok; rw [(gw s c p).1, (gw s c p).2]; exact h
theorem w8 (s : RS) (h : s.code ≠ 0) (c p : Int) : s.fail c p = s := by unfold fail; rw [if_neg (fun k => h k.1)]
theorem jW (s : RS) (h : s.code ≠ 0) (n : Int) : s.take n = (none, s) := by unfold take; rw [if_pos h]
theorem tv (s : RS) (h : s.code = 0) (n : Int) (hn : n < 0) : s.take n = (none, s.fail 2 s.at_) := by unfold take; rw [if_neg (fun k => k h), if_pos hn]
theorem lx (s : RS) (h : s.code = 0) (n : Int) (hn : 0 ≤ n) (hs : (s.bs.length : Int) - s.at_ < n) : s.take n = (none, s.fail 8 s.bs.length) := by
 unfold take; rw [if_neg (fun k => k h), if_neg (by omega), if_pos hs]
theorem jx (s : RS) (h : s.code = 0) (n : Nat) (hs : s.at_ + n ≤ s.bs.length) : s.take n = (some ((s.bs.drop s.at_).take n), { s with at_ := s.at_ + n }) := by
 unfold take; rw [if_neg (fun k => k h), if_neg (by omega), if_neg (by omega)]; simp
theorem ja (s : RS) (h : s.Ok) (n : Int) : (s.take n).2.Ok := by
 unfold take
 split
 · exact h
 · split
   · exact Eg s h _ _
   · split
     · exact Eg s h _ _
     · unfold Ok at *; simp only; omega
theorem wq (s : RS) (n : Int) : (s.take n).2.bs = s.bs := by
 unfold take
 split
 · rfl
 · split
   · exact (gw s _ _).1
   · split
     · exact (gw s _ _).1
     · rfl
theorem AR (s : RS) {n : Int} {l : List UInt8} (he : (s.take n).1 = some l) : l.length ≤ s.bs.length := by
 unfold take at he
 split at he
 · cases he
 · split at he
   · cases he
   · split at he
     · cases he
     · simp only [Option.some.injEq] at he
       subst he
       simp; omega
theorem AQ (s : RS) {n : Int} {l : List UInt8} (he : (s.take (size n)).1 = some l) : l.length ≤ 8 := by
 unfold take at he
 split at he
 · cases he
 · split at he
   · cases he
   · split at he
     · cases he
     · simp only [Option.some.injEq] at he
       subst he
       rename_i h1 _
       unfold size at h1 ⊢
       split at h1 <;> simp <;> split <;> omega
theorem kU (s : RS) {n : Int} {l : List UInt8} (h : (s.take (size n)).1 = some l) : s.uint n = (num l, (s.take (size n)).2) := by
 unfold uint; split <;> rename_i e <;> rw [e] at h ⊢ <;> cases h; rfl
theorem kT (s : RS) {n : Int} (h : (s.take (size n)).1 = none) : s.uint n = (0, (s.take (size n)).2) := by
 unfold uint; split <;> rename_i e <;> rw [e] at h ⊢ <;> cases h
theorem wM (s : RS) {n : Int} {l : List UInt8} (h : (s.take n).1 = some l) : s.bytes n = (l, (s.take n).2) := by
 unfold bytes; split <;> rename_i e <;> rw [e] at h ⊢ <;> cases h; rfl
theorem m9 (s : RS) {n : Int} (h : (s.take n).1 = none) : s.bytes n = ([], (s.take n).2) := by
 unfold bytes; split <;> rename_i e <;> rw [e] at h ⊢ <;> cases h
theorem po (s : RS) (n : Int) : (s.bytes n).2 = (s.take n).2 := by
 unfold bytes; split <;> rename_i h <;> rw [h]
theorem wL (s : RS) (n : Int) : (s.bytes n).2.bs = s.bs := by rw [po, wq]
theorem tw (s : RS) (n : Int) : (s.uint n).2 = (s.take (size n)).2 := by
 unfold uint; split <;> rename_i h <;> rw [h]
theorem l8 (s : RS) (n : Int) : (s.uint n).2.bs = s.bs := by rw [tw, wq]
theorem js (s : RS) : s.length.2.bs = s.bs := by
 unfold length; split
 · rw [(gw _ _ _).1, l8]
 · exact l8 s 8
theorem yZ (s : RS) (b : List UInt8) (c : Int) : (s.expect b c).2.bs = s.bs := by
 unfold expect; split
 · rfl
 · split
   · exact (gw _ _ _).1
   · exact wq _ _
theorem xw (l : List UInt8) (c : UInt8) : num (l ++ [c]) = 256 * num l + c.toNat := by simp [num]
theorem Ar (l : List UInt8) : num l < 256 ^ l.length := by
 have h : ∀ (m : List UInt8), num m.reverse < 256 ^ m.length := by
  intro m
  induction m with
  | nil => decide
  | cons c m ih =>
    rw [List.reverse_cons, xw, List.length_cons, Nat.pow_succ]
    have := c.toNat_lt
    omega
 have := h l.reverse
 simpa using this
theorem vm (l : List UInt8) (k : Nat) (hk : k < l.length) (hl : l.length ≤ 8) : num (l.take k) < 72057594037927936 := by
 have h1 := Ar (l.take k)
 have h2 : (l.take k).length = k := by simp; omega
 rw [h2] at h1
 have h3 : 256 ^ k ≤ 256 ^ 7 := Nat.pow_le_pow_right (by omega) (by omega)
 have h4 : 256 ^ 7 = 72057594037927936 := by decide
 omega
theorem mn (l : List UInt8) (k : Nat) (hk : k < l.length) : num (l.take (k + 1)) = 256 * num (l.take k) + (l.getD k 0).toNat := by
 rw [List.take_succ_eq_append_getElem hk, xw, sF _ _ _ hk]
end RS
def be : Nat → Nat → List UInt8
 | 0, _ => []
 | k + 1, v => UInt8.ofNat (v / 256 ^ k) :: be k v
theorem GY : ∀ (k v : Nat), (be k v).length = k
 | 0, _ => rfl
 | k + 1, v => by simp [be, GY k v]
theorem I7 (n : Nat) : u8 (n : Int) = UInt8.ofNat n := by
 apply UInt8.toNat.inj
 have := lz (n : Int)
 rw [UInt8.toNat_ofNat']
 omega
theorem byteOf (v k : Nat) (hk : k ≤ 8) : u8 (bN .u64 (v : Int) (8 * (k : Int))) = UInt8.ofNat (v / 256 ^ k) := by
 unfold bN
 have e : min (8 * (k : Int)).toNat IntKind.u64.bits = 8 * k := by show min _ 64 = _; omega
 rw [e, Int.fdiv_eq_ediv_of_nonneg _ (by exact_mod_cast Nat.zero_le _)]
 have e2 : ((2 : Int) ^ (8 * k)) = ((256 ^ k : Nat) : Int) := by rw [Int.pow_mul, Int.natCast_pow]; rfl
 rw [e2, ← Int.natCast_ediv, I7]
end Go.Proofs.YtekpafdhgkocaaaGreat
