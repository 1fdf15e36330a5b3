/- Part of what the laws need: plain words, the walker and its laws, the program's functions. -/
import Derived.Test.YthnhjibbkleneaaZPH1
namespace Go.Proofs.Ythnhjibbkleneaa
open G
namespace G
theorem CloneB (a : List UInt8) (h : a.length ≤ 140737488355328) : G.slices_Clone_byte_byte a = some a := by
  unfold G.slices_Clone_byte_byte
  cases a with
  | nil =>
    show agree _ ((app 1 ([] : List UInt8) []).bind fun y => some y) = _
    rw [app_of (by simp)]; exact agree_same _
  | cons x l =>
    show ((app 1 ([] : List UInt8) (x :: l)).bind fun y => some y) = _
    rw [app_of (by simp at h ⊢; omega)]; rfl
theorem tm64 {k : Nat} : Int.tmod (k : Int) 64 = ((k % 64 : Nat) : Int) := by
  rw [Int.tmod_eq_emod_of_nonneg (by omega)]; omega
theorem finish_ex (w : Nat → Int) (r : List UInt8) (n : Int) (h : r.length < 64) : ∃ x, G.sha_state_finish w r n = some x := by
  unfold G.sha_state_finish
  have e1 : Int.tmod (IntKind.i64.wrap ((119 : Int) - (r.length : Int))) 64 = (((119 - r.length) % 64 : Nat) : Int) := by
    rw [wr (k := 119 - r.length) (by omega) (by omega)]; exact tm64
  rw [e1, chk_of (by omega)]
  simp only [Option.bind_some]
  rw [app_of (by simp; omega)]
  simp only [Option.bind_some]
  obtain ⟨v3, h3, l3⟩ := Iter_total (f := G.sha_state_finish_l1 n) (fun m s => -1 ≤ s.2 ∧ s.2 ≤ 7 ∧ (m : Int) = s.2 + 1 ∧ s.1.length + m ≤ 200) (fun x => x.length ≤ 200) (by
    rintro m ⟨l, i⟩ ⟨h1, h2, h4, h5⟩
    simp only at h1 h2 h4 h5
    unfold G.sha_state_finish_l1
    by_cases hi : 0 ≤ i
    · left
      rw [if_pos (by simp only; omega)]
      simp only [w64 (x := (8 : Int) * i) (by omega) (by omega), w64 (x := i - 1) (by omega) (by omega)]
      rw [chk_of (by omega)]
      simp only [Option.bind_some]
      rw [app_of (by simp; omega)]
      exact ⟨m - 1, _, rfl, by omega, by simp only; omega, by simp only; omega, by simp only; omega, by simp; omega⟩
    · right
      rw [if_neg (by simp only; omega)]
      exact ⟨_, rfl, by simp only; omega⟩) 8 ([(u8 128)] ++ List.replicate (((119 - r.length) % 64 : Nat) : Int).toNat (0 : UInt8), 7) ⟨by simp, by simp, by simp, by simp; omega⟩
  rw [h3]
  simp only [Option.bind_some]
  rw [takex_eq, take_of _ _ _ _ (by omega)]
  simp only [Option.bind_some]
  generalize ((tS w (r ++ v3)).1, (tS w (r ++ v3)).2, IntKind.i64.wrap (n + (v3.length : Int))) = y
  obtain ⟨x, hx, _⟩ := Iter_total (f := G.sha_state_finish_l2 y) (fun m s => ∃ i : Nat, s.1 = (i : Int) ∧ i ≤ 32 ∧ m = 32 - i) (fun _ => True) (by
    rintro m ⟨_, f⟩ ⟨i, hi, h16, rfl⟩
    simp only at hi; subst hi
    unfold G.sha_state_finish_l2
    by_cases hlt : i < 32
    · left
      have d1 : Int.tdiv (i : Int) 4 = ((i / 4 : Nat) : Int) := by rw [Int.tdiv_eq_ediv_of_nonneg (by omega)]; omega
      have d2 : Int.tmod (i : Int) 4 = ((i % 4 : Nat) : Int) := by rw [Int.tmod_eq_emod_of_nonneg (by omega)]; omega
      rw [if_pos (by simp only; omega)]
      simp only [d1, d2, wr (k := i / 4) rfl (by omega), w64 (x := ((i % 4 : Nat) : Int) * 8) (by omega) (by omega), w64 (x := (24 : Int) - ((i % 4 : Nat) : Int) * 8) (by omega) (by omega), wr (k := i + 1) (show (i : Int) + 1 = ((i + 1 : Nat) : Int) by omega) (by omega)]
      rw [chk_of (by omega), chk_of (by omega), chk_of (by omega)]
      exact ⟨32 - (i + 1), _, rfl, by omega, i + 1, rfl, by omega, rfl⟩
    · right
      rw [if_neg (by simp only; omega)]
      exact ⟨_, rfl, trivial⟩) 32 ((0 : Int), (fun _ => 0)) ⟨0, rfl, by omega, rfl⟩
  exact ⟨x, hx⟩
noncomputable def HS (w : Nat → Int) (r : List UInt8) (n : Int) : Nat → UInt8 := (G.sha_Hash_Sum w r n).getD fun _ => 0
theorem Sum_of (w : Nat → Int) (r : List UInt8) (n : Int) (h : r.length < 64) : G.sha_Hash_Sum w r n = some (HS w r n) := by
  obtain ⟨x, hx⟩ := finish_ex w r n h
  have e : ∃ y, G.sha_Hash_Sum w r n = some y := by
    unfold G.sha_Hash_Sum G.sha_state_copied
    rw [CloneB r (by omega)]
    simp only [Option.bind_some]
    rw [hx]; exact ⟨_, rfl⟩
  obtain ⟨y, hy⟩ := e
  unfold HS
  rw [hy]; rfl
theorem New_ex : ∃ w, G.sha_New = some (w, [], 0) := ⟨_, rfl⟩
noncomputable def W0 : Nat → Int := New_ex.choose
theorem New_of : G.sha_New = some (W0, [], 0) := New_ex.choose_spec
theorem flat_succ {α : Type} {l : List (List α)} {k : Nat} (h : k < l.length) : (l.take (k + 1)).flatten = (l.take k).flatten ++ l[k] := by
  rw [List.take_succ_eq_append_getElem h, List.flatten_append]; simp
theorem flat_le {α : Type} (l : List (List α)) (k : Nat) : (l.take k).flatten.length ≤ l.flatten.length := by
  have := congrArg (fun l => l.flatten.length) (List.take_append_drop k l)
  simp only [List.flatten_append, List.length_append] at this
  omega
theorem Write_of (l : List (List UInt8)) (w : Nat → Int) (r : List UInt8) (n : Int) (hr : r.length < 64) (hl : l.length ≤ 1000000) (hf : l.flatten.length ≤ 1000000000) (hn : 0 ≤ n ∧ n ≤ 1000000000000) :
    ∃ x, G.sha_Hash_Write l w r n = some (x, (tS w (r ++ l.flatten)).1, (tS w (r ++ l.flatten)).2, n + (l.flatten.length : Int)) := by
  unfold G.sha_Hash_Write
  have key : Iter (G.sha_Hash_Write_l1 l) ((0 : Int), w, r, n) = some ((tS w (r ++ l.flatten)).1, (tS w (r ++ l.flatten)).2, n + (l.flatten.length : Int)) := by
    refine Iter_count l.length (fun k => ((k : Int), (tS w (r ++ (l.take k).flatten)).1, (tS w (r ++ (l.take k).flatten)).2, n + ((l.take k).flatten.length : Int))) _ (fun k hk => ?_) ?_ ?_
    · have h1 := flat_le l (k + 1)
      rw [flat_succ hk, List.length_append] at h1
      have h2 := (tS_len _ w (r ++ (l.take k).flatten) (Nat.le_refl _)).1
      unfold G.sha_Hash_Write_l1
      rw [if_pos (by simp only; omega)]
      simp only [idx_of hk, Option.bind_some]
      rw [take_of _ _ _ _ (by omega)]
      simp only [Option.bind_some]
      rw [inc64 hk (by omega), w64 (by omega) (by omega), flat_succ hk, List.length_append, ← List.append_assoc, tS_app _ w (r ++ (l.take k).flatten) l[k] (Nat.le_refl _)]
      rw [show n + (((l.take k).flatten.length : Nat) : Int) + (l[k].length : Int) = n + (((l.take k).flatten.length + l[k].length : Nat) : Int) by omega]
    · unfold G.sha_Hash_Write_l1
      rw [if_neg (by simp only; omega), List.take_length]
    · simp [tS_lt (w := w) (r := r) (by omega)]
  rw [key]
  exact ⟨_, rfl⟩
noncomputable def shaD (x : List UInt8) : Nat → UInt8 := HS (tS W0 x).1 (tS W0 x).2 (x.length : Int)
theorem Of_of (l : List (List UInt8)) (hl : l.length ≤ 1000000) (hf : l.flatten.length ≤ 1000000000) : G.sha_Of l = some (shaD l.flatten) := by
  unfold G.sha_Of
  rw [New_of]
  simp only [Option.bind_some]
  obtain ⟨x, hx⟩ := Write_of l W0 [] 0 (by simp) hl hf (by omega)
  rw [hx]
  simp only [Option.bind_some, List.nil_append, Int.zero_add]
  rw [Sum_of _ _ _ (tS_len _ _ _ (Nat.le_refl _)).1]
  rfl
end G
end Go.Proofs.Ythnhjibbkleneaa
