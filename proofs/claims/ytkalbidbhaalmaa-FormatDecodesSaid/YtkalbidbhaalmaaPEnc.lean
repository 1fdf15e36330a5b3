/- Encoding, plain; the program's and the reference's encoders are the plain one. -/
import Derived.Test.YtkalbidbhaalmaaPSeven2
namespace Go.Proofs.Ytkalbidbhaalmaa
open G
theorem Append6_l (v : Nat) : ∀ (k : Nat) (b : List UInt8), k ≤ 8 → b.length + k ≤ 140737488355328 → Iter (G.graftref06_Append_l1 (v : Int)) (b, (k : Int) - 1) = some (b ++ be k v)
  | 0, b, _, _ => by
    apply Iter_inr; unfold G.graftref06_Append_l1; simp [be]
  | k + 1, b, hk, hb => by
    have e : ((k + 1 : Nat) : Int) - 1 = (k : Int) := by omega
    rw [e]
    have ih := Append6_l v k (b ++ [UInt8.ofNat (v / 256 ^ k)]) (by omega) (by simp; omega)
    rw [be, List.append_cons, ← ih]
    apply Iter_inl
    unfold G.graftref06_Append_l1
    dsimp only
    rw [if_pos (by omega), w64 (by omega) (by omega), chk_of (by omega), w64 (by omega) (by omega)]
    simp only [Option.bind_some]
    rw [byteOf v k (by omega), app_of (by simp; omega)]
    rfl
theorem Append6 (v k : Nat) (b : List UInt8) (hk : k ≤ 8) (hb : b.length + k ≤ 140737488355328) : G.graftref06_Append b (v : Int) (k : Int) = some (b ++ be k v) := by
  unfold G.graftref06_Append
  rw [app_of (by simp; omega)]
  simp only [Option.bind_some, List.nil_append]
  rw [w64 (by omega) (by omega)]
  exact Append6_l v k b hk hb
theorem fits_of (v k : Nat) (h1 : 1 ≤ k) (hk : k ≤ 8) (hv : v < 256 ^ k) : G.wire_Field_fits ⟨(v : Int), (k : Int)⟩ = some true := by
  unfold G.wire_Field_fits
  dsimp only
  rw [if_pos (by omega), if_pos (by omega), w64 (x := 8 * (k : Int)) (by omega) (by omega), w64 (by omega) (by omega), chk_of (by omega)]
  simp only [Option.bind_some]
  have e : ishr .u64 (ishr .u64 (v : Int) (8 * (k : Int) - 1)) 1 = 0 := by
    unfold ishr
    have e1 : min (8 * (k : Int) - 1).toNat IntKind.u64.bits = 8 * k - 1 := by show min _ 64 = _; omega
    rw [e1, show min (1 : Int).toNat IntKind.u64.bits = 1 from rfl]
    have e2 : ((2 : Int) ^ (8 * k - 1)) = ((2 ^ (8 * k - 1) : Nat) : Int) := by rw [Int.natCast_pow]; rfl
    have e0 : ∀ m : Nat, 0 ≤ (2 : Int) ^ m := fun m => by rw [show (2 : Int) = ((2 : Nat) : Int) from rfl, ← Int.natCast_pow]; exact Int.natCast_nonneg _
    rw [Int.fdiv_eq_ediv_of_nonneg _ (e0 _), Int.fdiv_eq_ediv_of_nonneg _ (e0 _), e2, ← Int.natCast_ediv]
    have e3 : (2 : Nat) ^ (8 * k - 1) * 2 = 256 ^ k := by
      rw [← Nat.pow_succ, show (8 * k - 1).succ = 8 * k by omega, Nat.pow_mul]
    have e4 : v / 2 ^ (8 * k - 1) < 2 := by
      rw [Nat.div_lt_iff_lt_mul (Nat.pow_pos (by decide)), Nat.mul_comm, e3]; exact hv
    generalize v / 2 ^ (8 * k - 1) = y at *
    show (y : Int) / 2 = 0
    omega
  rw [e]; rfl
theorem wireA_l (v : Nat) (s1 : (List UInt8) × Int) (sz : Int) : ∀ (k : Nat) (b : List UInt8), k ≤ 8 → b.length + k ≤ 140737488355328 → Iter (G.wire_Append_l2 s1 ⟨(v : Int), sz⟩) (b, (k : Int) - 1) = some (.inl (b ++ be k v, IntKind.i64.wrap (s1.2 + 1)))
  | 0, b, _, _ => by
    apply Iter_inr; unfold G.wire_Append_l2; simp [be]
  | k + 1, b, hk, hb => by
    have e : ((k + 1 : Nat) : Int) - 1 = (k : Int) := by omega
    rw [e]
    have ih := wireA_l v s1 sz k (b ++ [UInt8.ofNat (v / 256 ^ k)]) (by omega) (by simp; omega)
    rw [be, List.append_cons, ← ih]
    apply Iter_inl
    unfold G.wire_Append_l2
    dsimp only
    rw [if_pos (by omega), w64 (by omega) (by omega), chk_of (by omega), w64 (by omega) (by omega)]
    simp only [Option.bind_some]
    rw [byteOf v k (by omega), app_of (by simp; omega)]
    rfl
/-- Fields, and their bytes. -/
def flds (l : List (Nat × Nat)) : List G.wire_Field := l.map fun x => ⟨(x.1 : Int), (x.2 : Int)⟩
def fbytes (l : List (Nat × Nat)) : List UInt8 := l.flatMap fun x => be x.2 x.1
theorem wireA (l : List (Nat × Nat)) (b : List UInt8) (hl : ∀ x ∈ l, 1 ≤ x.2 ∧ x.2 ≤ 8 ∧ x.1 < 256 ^ x.2) (hb : b.length + (fbytes l).length ≤ 140737488355328) (hn : l.length ≤ 1000) : G.wire_Append b (flds l) = some (b ++ fbytes l, true) := by
  unfold G.wire_Append G.slices_Clone_byte_byte
  have hx : ∀ k, (fbytes (l.take k)).length ≤ (fbytes l).length := fun k => by
    have : fbytes l = fbytes (l.take k) ++ fbytes (l.drop k) := by unfold fbytes; rw [← List.flatMap_append, List.take_append_drop]
    rw [this]; simp
  rw [app_of (by simp; omega)]
  simp only [Option.bind_some, List.nil_append]
  refine Iter_count l.length (fun k => (b ++ fbytes (l.take k), (k : Int))) _ (fun k hk => ?_) ?_ (by simp [fbytes])
  · unfold G.wire_Append_l1
    have hk' : k < (flds l).length := by simpa [flds] using hk
    dsimp only
    rw [if_pos (by omega), idx_of hk']
    simp only [Option.bind_some]
    have e : (flds l)[k] = ⟨(l[k].1 : Int), (l[k].2 : Int)⟩ := by simp [flds]
    obtain ⟨h1, h8, hv⟩ := hl _ (List.getElem_mem hk)
    have hs : fbytes (l.take (k + 1)) = fbytes (l.take k) ++ be l[k].2 l[k].1 := by
      unfold fbytes; rw [List.take_succ_eq_append_getElem hk, List.flatMap_append]; simp
    have hlen := hx (k + 1)
    rw [hs, List.length_append, be_len] at hlen
    rw [e, fits_of _ _ h1 h8 hv]
    simp only [Option.bind_some, Bool.true_eq_false, if_false]
    rw [w64 (by omega) (by omega), wireA_l _ _ _ _ _ h8 (by simp; omega), inc64 hk (by omega), hs, List.append_assoc]
  · unfold G.wire_Append_l1
    rw [if_neg (by simp [flds])]
    simp
def inM (x : Int) : Bool := decide (0 ≤ x ∧ x ≤ 4611686018427387903)
theorem Valid0 (x : Int) : G.extent_Valid ⟨0, x⟩ = some (inM x) := by
  unfold G.extent_Valid inM imin
  dsimp only
  rw [w64 (by omega) (by omega)]
  by_cases h : x < 0
  · rw [if_pos h, if_neg (by omega), decide_eq_false (by omega)]
  · rw [if_neg h, if_pos (by omega), if_pos (by omega)]
    congr 1; rw [decide_eq_decide]; omega
theorem within_of (l : List Int) (hl : l.length ≤ 1000) : G.format_within l = some (l.all inM) := by
  unfold G.format_within
  have := Iter_each (f := G.format_within_l1 l) l (fun x => !inM x) (fun k => (k : Int)) (fun _ => false) true (fun k h hb => ?_) (fun k h hb => ?_) ?_ (s := 0) rfl
  · rcases this with ⟨ha, he⟩ | ⟨k, h, hb, _, he⟩
    · rw [he]; congr 1; symm; rw [List.all_eq_true]; intro x hx; simpa using ha x hx
    · rw [he]; congr 1; symm; rw [List.all_eq_false]; exact ⟨_, List.getElem_mem h, by simpa using hb⟩
  · unfold G.format_within_l1
    rw [if_pos (by omega), idx_of h]
    simp only [Option.bind_some, Valid0]
    simp only [Bool.not_eq_false'] at hb
    rw [hb, inc64 h (by omega)]; simp
  · unfold G.format_within_l1
    rw [if_pos (by omega), idx_of h]
    simp only [Option.bind_some, Valid0]
    simp only [Bool.not_eq_true'] at hb
    rw [hb]; simp
  · unfold G.format_within_l1
    rw [if_neg (by omega)]
/-- What may be encoded. -/
def okK (c : G.Command) : Bool := c.kind == 1 || c.kind == 2
def okC (c : G.Command) : Bool := if c.kind = 1 then inM c.to && inM c.from_ && inM c.len && c.data.isEmpty else inM c.to && (c.from_ == 0) && (c.len == 0)
def wrong (d : G.Delta) : Int := if d.commands.all okK = false then 11 else if inM d.oldLen && inM d.newLen && d.commands.all okC then 0 else 2
theorem all_take {α : Type} (l : List α) (f : α → Bool) (k : Nat) (h : k < l.length) : (l.take (k + 1)).all f = ((l.take k).all f && f l[k]) := by
  rw [List.take_succ_eq_append_getElem h, List.all_append]; simp only [List.all_cons, List.all_nil, Bool.and_true]
theorem check_p (d : G.Delta) (hn : d.commands.length ≤ 9223372036854775807) : G.format_check d = some (wrong d) := by
  unfold G.format_check
  rw [within_of _ (by simp)]
  simp only [Option.bind_some, List.all_cons, List.all_nil, Bool.and_true]
  have := Iter_each (f := G.format_check_l1 d) d.commands (fun c => !okK c) (fun k => ((inM d.oldLen && inM d.newLen && (d.commands.take k).all okC), (k : Int))) (fun _ => .inr 11) (.inl (inM d.oldLen && inM d.newLen && d.commands.all okC)) (fun k h hb => ?_) (fun k h hb => ?_) ?_ (s := (inM d.oldLen && inM d.newLen, 0)) (by simp)
  · unfold wrong
    rcases this with ⟨ha, he⟩ | ⟨k, h, hb, _, he⟩
    · have : d.commands.all okK = true := by rw [List.all_eq_true]; intro x hx; simpa using ha x hx
      rw [he, this]
      simp only [Option.bind_some, joinK_inl, Bool.true_eq_false, if_false]
      cases (inM d.oldLen && inM d.newLen && d.commands.all okC) <;> rfl
    · have : d.commands.all okK = false := by rw [List.all_eq_false]; exact ⟨_, List.getElem_mem h, by simpa using hb⟩
      rw [he, this]; rfl
  · unfold G.format_check_l1
    dsimp only
    rw [if_pos (by omega), idx_of h]
    simp only [Option.bind_some]
    rw [inc64 h hn, all_take _ _ _ h, ← Bool.and_assoc]
    generalize (inM d.oldLen && inM d.newLen && (d.commands.take k).all okC) = a
    generalize d.commands[k] = c at *
    rw [within_of _ (by simp), within_of _ (by simp)]
    unfold okK at hb
    unfold okC
    by_cases h1 : c.kind = 1
    · rw [if_pos h1, if_pos h1]
      have : ((c.data.length : Int) == 0) = c.data.isEmpty := by cases c.data <;> simp <;> omega
      rw [this]
      simp only [List.all_cons, List.all_nil, Bool.and_true, Option.bind_some]
      cases a <;> cases inM c.to <;> cases inM c.from_ <;> cases inM c.len <;> rfl
    · have h2 : c.kind = 2 := by simpa [h1] using hb
      rw [if_neg h1, if_pos h2, if_neg h1]
      simp only [List.all_cons, List.all_nil, Bool.and_true, Option.bind_some]
      by_cases hf : c.from_ = 0
      · simp only [hf, if_true]; cases a <;> cases inM c.to <;> rfl
      · have : (c.from_ == 0) = false := by simpa using hf
        simp only [hf, if_false, this]; cases a <;> cases inM c.to <;> rfl
  · unfold G.format_check_l1
    dsimp only
    rw [if_pos (by omega), idx_of h]
    simp only [Option.bind_some]
    generalize d.commands[k] = c at *
    unfold okK at hb
    simp at hb
    rw [if_neg hb.1, if_neg hb.2]
  · unfold G.format_check_l1
    rw [if_neg (by simp)]; simp
end Go.Proofs.Ytkalbidbhaalmaa
