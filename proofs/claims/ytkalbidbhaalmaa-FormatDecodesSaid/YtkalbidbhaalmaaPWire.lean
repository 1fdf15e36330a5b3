/- The plain law of readers and numbers of fixed sizes (layer 6); no program in sight. -/
import Derived.Test.YtkalbidbhaalmaaPure
namespace Go.Proofs.Ytkalbidbhaalmaa
open G
theorem getD_lt {α : Type} (l : List α) (i : Nat) (d : α) (h : i < l.length) : l.getD i d = l[i] := by simp [h]
/-- A loop over a list, which may stop early. -/
theorem Iter_each {σ α γ : Type} {f : σ → Option (σ ⊕ α)} (l : List γ) (bad : γ → Bool) (st : Nat → σ) (ex : Nat → α) (fin : α)
    (hstep : ∀ k (h : k < l.length), bad l[k] = false → f (st k) = some (.inl (st (k + 1))))
    (hbad : ∀ k (h : k < l.length), bad l[k] = true → f (st k) = some (.inr (ex k)))
    (hend : f (st l.length) = some (.inr fin)) {s : σ} (hs : s = st 0) :
    ((∀ x ∈ l, bad x = false) ∧ Iter f s = some fin) ∨ ∃ k, ∃ h : k < l.length, bad l[k] = true ∧ (∀ j (hj : j < k), bad (l[j]'(by omega)) = false) ∧ Iter f s = some (ex k) := by
  by_cases hx : l.findIdx bad < l.length
  · refine .inr ⟨_, hx, List.findIdx_getElem, fun j hj => by simpa using List.not_of_lt_findIdx hj, ?_⟩
    exact Iter_count _ st _ (fun k hk => hstep k (by omega) (by simpa using List.not_of_lt_findIdx hk)) (hbad _ hx List.findIdx_getElem) hs
  · have hall : ∀ x ∈ l, bad x = false := by
      rw [List.findIdx_lt_length] at hx
      intro x hm
      cases e : bad x with
      | false => rfl
      | true => exact absurd ⟨x, hm, e⟩ hx
    exact .inl ⟨hall, Iter_count l.length st fin (fun k hk => hstep k hk (hall _ (List.getElem_mem hk))) hend hs⟩
/-- A reader: the bytes, the offset, the first error with its offset. -/
structure RS where
  bs : List UInt8
  at_ : Nat
  code : Int
  pos : Int
namespace RS
def fail (s : RS) (code pos : Int) : RS := if s.code = 0 ∧ code ≠ 0 then { s with code := code, pos := pos } else s
def take (s : RS) (n : Int) : Option (List UInt8) × RS :=
  if s.code ≠ 0 then (none, s)
  else if n < 0 then (none, s.fail 2 s.at_)
  else if (s.bs.length : Int) - s.at_ < n then (none, s.fail 8 s.bs.length)
  else (some ((s.bs.drop s.at_).take n.toNat), { s with at_ := s.at_ + n.toNat })
def Ok (s : RS) : Prop := s.at_ ≤ s.bs.length
/-- The number of bytes, the most significant one first. -/
def num (l : List UInt8) : Nat := l.foldl (fun x c => 256 * x + c.toNat) 0
def size (n : Int) : Int := if n < 1 ∨ 8 < n then -1 else n
def uint (s : RS) (n : Int) : Nat × RS :=
  match s.take (size n) with
  | (some l, s') => (num l, s')
  | (none, s') => (0, s')
def length (s : RS) : Int × RS :=
  if 4611686018427387903 < (s.uint 8).1 then (0, (s.uint 8).2.fail 2 s.at_) else (((s.uint 8).1 : Int), (s.uint 8).2)
def bytes (s : RS) (n : Int) : List UInt8 × RS :=
  match s.take n with
  | (some l, s') => (l, s')
  | (none, s') => ([], s')
def expect (s : RS) (b : List UInt8) (code : Int) : Bool × RS :=
  if s.code ≠ 0 then (false, s)
  else if ((s.bs.drop s.at_).take b.length) ≠ b.take ((s.bs.drop s.at_).take b.length).length then (false, s.fail code s.at_)
  else ((s.take b.length).1.isSome, (s.take b.length).2)
theorem fail_bs (s : RS) (c p : Int) : (s.fail c p).bs = s.bs ∧ (s.fail c p).at_ = s.at_ := by unfold fail; split <;> exact ⟨rfl, rfl⟩
theorem fail_ok (s : RS) (h : s.Ok) (c p : Int) : (s.fail c p).Ok := by unfold Ok; rw [(fail_bs s c p).1, (fail_bs s c p).2]; exact h
theorem fail_bad (s : RS) (h : s.code ≠ 0) (c p : Int) : s.fail c p = s := by unfold fail; rw [if_neg (fun k => h k.1)]
theorem take_bad (s : RS) (h : s.code ≠ 0) (n : Int) : s.take n = (none, s) := by unfold take; rw [if_pos h]
theorem take_neg (s : RS) (h : s.code = 0) (n : Int) (hn : n < 0) : s.take n = (none, s.fail 2 s.at_) := by unfold take; rw [if_neg (fun k => k h), if_pos hn]
theorem take_short (s : RS) (h : s.code = 0) (n : Int) (hn : 0 ≤ n) (hs : (s.bs.length : Int) - s.at_ < n) : s.take n = (none, s.fail 8 s.bs.length) := by
  unfold take; rw [if_neg (fun k => k h), if_neg (by omega), if_pos hs]
theorem take_some (s : RS) (h : s.code = 0) (n : Nat) (hs : s.at_ + n ≤ s.bs.length) : s.take n = (some ((s.bs.drop s.at_).take n), { s with at_ := s.at_ + n }) := by
  unfold take; rw [if_neg (fun k => k h), if_neg (by omega), if_neg (by omega)]; simp
theorem take_ok (s : RS) (h : s.Ok) (n : Int) : (s.take n).2.Ok := by
  unfold take
  split
  · exact h
  · split
    · exact fail_ok s h _ _
    · split
      · exact fail_ok s h _ _
      · unfold Ok at *; simp only; omega
theorem take_bs (s : RS) (n : Int) : (s.take n).2.bs = s.bs := by
  unfold take
  split
  · rfl
  · split
    · exact (fail_bs s _ _).1
    · split
      · exact (fail_bs s _ _).1
      · rfl
theorem take_len (s : RS) (h : s.Ok) {n : Int} {l : List UInt8} (he : (s.take n).1 = some l) : (l.length : Int) = n := by
  unfold take at he
  unfold Ok at h
  split at he
  · cases he
  · split at he
    · cases he
    · split at he
      · cases he
      · simp only [Option.some.injEq] at he
        subst he
        simp; omega
theorem take_some_le (s : RS) {n : Int} {l : List UInt8} (he : (s.take n).1 = some l) : l.length ≤ s.bs.length := by
  unfold take at he
  split at he
  · cases he
  · split at he
    · cases he
    · split at he
      · cases he
      · simp only [Option.some.injEq] at he
        subst he
        simp; omega
theorem take_size_le (s : RS) {n : Int} {l : List UInt8} (he : (s.take (size n)).1 = some l) : l.length ≤ 8 := by
  unfold take at he
  split at he
  · cases he
  · split at he
    · cases he
    · split at he
      · cases he
      · simp only [Option.some.injEq] at he
        subst he
        rename_i h1 _
        unfold size at h1 ⊢
        split at h1 <;> simp <;> split <;> omega
theorem uint_some (s : RS) {n : Int} {l : List UInt8} (h : (s.take (size n)).1 = some l) : s.uint n = (num l, (s.take (size n)).2) := by
  unfold uint; split <;> rename_i e <;> rw [e] at h ⊢ <;> cases h; rfl
theorem uint_none (s : RS) {n : Int} (h : (s.take (size n)).1 = none) : s.uint n = (0, (s.take (size n)).2) := by
  unfold uint; split <;> rename_i e <;> rw [e] at h ⊢ <;> cases h
theorem bytes_some (s : RS) {n : Int} {l : List UInt8} (h : (s.take n).1 = some l) : s.bytes n = (l, (s.take n).2) := by
  unfold bytes; split <;> rename_i e <;> rw [e] at h ⊢ <;> cases h; rfl
theorem bytes_none (s : RS) {n : Int} (h : (s.take n).1 = none) : s.bytes n = ([], (s.take n).2) := by
  unfold bytes; split <;> rename_i e <;> rw [e] at h ⊢ <;> cases h
theorem bytes_snd (s : RS) (n : Int) : (s.bytes n).2 = (s.take n).2 := by
  unfold bytes; split <;> rename_i h <;> rw [h]
theorem bytes_bs (s : RS) (n : Int) : (s.bytes n).2.bs = s.bs := by rw [bytes_snd, take_bs]
theorem uint_snd (s : RS) (n : Int) : (s.uint n).2 = (s.take (size n)).2 := by
  unfold uint; split <;> rename_i h <;> rw [h]
theorem uint_bs (s : RS) (n : Int) : (s.uint n).2.bs = s.bs := by rw [uint_snd, take_bs]
theorem length_bs (s : RS) : s.length.2.bs = s.bs := by
  unfold length; split
  · rw [(fail_bs _ _ _).1, uint_bs]
  · exact uint_bs s 8
theorem expect_bs (s : RS) (b : List UInt8) (c : Int) : (s.expect b c).2.bs = s.bs := by
  unfold expect; split
  · rfl
  · split
    · exact (fail_bs _ _ _).1
    · exact take_bs _ _
theorem num_append (l : List UInt8) (c : UInt8) : num (l ++ [c]) = 256 * num l + c.toNat := by simp [num]
theorem num_lt (l : List UInt8) : num l < 256 ^ l.length := by
  have h : ∀ (m : List UInt8), num m.reverse < 256 ^ m.length := by
    intro m
    induction m with
    | nil => decide
    | cons c m ih =>
      rw [List.reverse_cons, num_append, List.length_cons, Nat.pow_succ]
      have := c.toNat_lt
      omega
  have := h l.reverse
  simpa using this
theorem num_take_lt (l : List UInt8) (k : Nat) (hk : k < l.length) (hl : l.length ≤ 8) : num (l.take k) < 72057594037927936 := by
  have h1 := num_lt (l.take k)
  have h2 : (l.take k).length = k := by simp; omega
  rw [h2] at h1
  have h3 : 256 ^ k ≤ 256 ^ 7 := Nat.pow_le_pow_right (by omega) (by omega)
  have h4 : 256 ^ 7 = 72057594037927936 := by decide
  omega
theorem num_take_succ (l : List UInt8) (k : Nat) (hk : k < l.length) : num (l.take (k + 1)) = 256 * num (l.take k) + (l.getD k 0).toNat := by
  rw [List.take_succ_eq_append_getElem hk, num_append, getD_lt _ _ _ hk]
theorem num_inj : ∀ (l l' : List UInt8) (x y : Nat), l.length = l'.length → l.foldl (fun x c => 256 * x + c.toNat) x = l'.foldl (fun x c => 256 * x + c.toNat) y → x = y ∧ l = l'
  | [], [], _, _, _, h => ⟨h, rfl⟩
  | [], _ :: _, _, _, h, _ => by simp at h
  | _ :: _, [], _, _, h, _ => by simp at h
  | c :: l, c' :: l', x, y, hl, h => by
    have ⟨e, el⟩ := num_inj l l' _ _ (by simpa using hl) h
    have h1 := c.toNat_lt; have h2 := c'.toNat_lt
    replace e : 256 * x + c.toNat = 256 * y + c'.toNat := e
    have h3 : x = y ∧ c.toNat = c'.toNat := by omega
    exact ⟨h3.1, by rw [UInt8.toNat.inj h3.2, el]⟩
end RS
/-- The last k bytes of a number, the most significant one first. -/
def be : Nat → Nat → List UInt8
  | 0, _ => []
  | k + 1, v => UInt8.ofNat (v / 256 ^ k) :: be k v
theorem be_len : ∀ (k v : Nat), (be k v).length = k
  | 0, _ => rfl
  | k + 1, v => by simp [be, be_len k v]
theorem be_fold : ∀ (k v x : Nat), (be k v).foldl (fun x c => 256 * x + c.toNat) x = x * 256 ^ k + v % 256 ^ k
  | 0, v, x => by simp [be, Nat.mod_one]
  | k + 1, v, x => by
    simp only [be, List.foldl_cons]
    have e : v % 256 ^ (k + 1) = v % 256 ^ k + 256 ^ k * (v / 256 ^ k % 256) := Nat.mod_pow_succ
    rw [be_fold k v, UInt8.toNat_ofNat', e]
    have : (2 : Nat) ^ 8 = 256 := rfl
    rw [this, Nat.pow_succ]
    generalize v / 256 ^ k % 256 = d
    generalize 256 ^ k = p
    generalize v % p = e
    rw [Nat.add_mul, Nat.mul_comm p d, Nat.mul_comm p 256, ← Nat.mul_assoc, Nat.mul_comm x 256]
    omega
theorem num_be {k v : Nat} (h : v < 256 ^ k) : RS.num (be k v) = v := by
  unfold RS.num; rw [be_fold, Nat.zero_mul, Nat.zero_add, Nat.mod_eq_of_lt h]
theorem be_num (l : List UInt8) : be l.length (RS.num l) = l :=
  (RS.num_inj _ _ 0 0 (be_len _ _) (num_be (RS.num_lt l))).2
theorem be_1 (v : Nat) : be 1 v = [UInt8.ofNat v] := by simp [be]
theorem u8_ofNat (n : Nat) : u8 (n : Int) = UInt8.ofNat n := by
  apply UInt8.toNat.inj
  have := u8_toNat (n : Int)
  rw [UInt8.toNat_ofNat']
  omega
theorem byteOf (v k : Nat) (hk : k ≤ 8) : u8 (ishr .u64 (v : Int) (8 * (k : Int))) = UInt8.ofNat (v / 256 ^ k) := by
  unfold ishr
  have e : min (8 * (k : Int)).toNat IntKind.u64.bits = 8 * k := by show min _ 64 = _; omega
  rw [e, Int.fdiv_eq_ediv_of_nonneg _ (by exact_mod_cast Nat.zero_le _)]
  have e2 : ((2 : Int) ^ (8 * k)) = ((256 ^ k : Nat) : Int) := by rw [Int.pow_mul, Int.natCast_pow]; rfl
  rw [e2, ← Int.natCast_ediv, u8_ofNat]
end Go.Proofs.Ytkalbidbhaalmaa
