/- Part of what the laws need: plain words, the walker and its laws, the program's functions. -/
import Derived.Test.YthnhjibbkleneaaZPP1
import Derived.Test.YthnhjibbkleneaaZPH4
namespace Go.Proofs.Ythnhjibbkleneaa
open G
namespace G
def keysR : G.graftref02_Keys := ⟨ints S8, ints K64⟩
theorem Table_keys : G.graftref02_Table = some keysR := Table_of
theorem With02_keys {b : List UInt8} (hb : b.length ≤ 100000000) : G.graftref02_With b keysR = some (shaD b) := With02_of hb
section
variable {d : G.Delta} {S : List G.Command} {a0 : List UInt8}
def fed (a0 : List UInt8) (S : List G.Command) (k : Nat) : List UInt8 := ((S.take k).map (byts a0)).flatten
theorem fed_all : fed a0 S S.length = file a0 S := by
  unfold fed file expL
  rw [List.take_length]
  induction S with
  | nil => rfl
  | cons c S ih => rw [List.map_cons, List.flatten_cons, ih, List.flatMap_cons, List.map_append]; rfl
theorem fed_succ {k : Nat} (hk : k < S.length) : fed a0 S (k + 1) = fed a0 S k ++ byts a0 S[k] := by
  unfold fed
  rw [List.take_succ_eq_append_getElem hk, List.map_append, List.flatten_append]; simp
theorem fed_le (k : Nat) : (fed a0 S k).length ≤ (file a0 S).length := by
  rw [← fed_all]
  unfold fed
  rw [List.take_length]
  have := congrArg (fun l => (l.map (byts a0)).flatten.length) (List.take_append_drop k S)
  simp only [List.map_append, List.flatten_append, List.length_append] at this
  omega
theorem Verify_loop (h : Sm d S) (hl : d.oldLen = (a0.length : Int)) (ha : a0.length ≤ 1000000) {y : G.Delta} (hy : y.commands = S) :
    Iter (G.patch_Verify_l1 a0 y) ((0 : Int), W0, ([] : List UInt8), (0 : Int)) = some ((tS W0 (file a0 S)).1, (tS W0 (file a0 S)).2, ((file a0 S).length : Int)) := by
  have fl := file_len (a0 := a0) h
  have hn := h.new
  refine Iter_count S.length (fun k => ((k : Int), (tS W0 (fed a0 S k)).1, (tS W0 (fed a0 S k)).2, ((fed a0 S k).length : Int))) _ (fun k hk => ?_) ?_ ?_
  · have hf := h.fit _ (List.getElem_mem hk)
    have f1 := fed_le (a0 := a0) (S := S) k
    have f2 := fed_le (a0 := a0) (S := S) (k + 1)
    rw [fed_succ hk, List.length_append] at f2
    have hs := h.slen
    unfold G.patch_Verify_l1
    rw [hy, if_pos (by simp only; omega)]
    simp only [idx_of hk, Option.bind_some]
    rw [bytesOf_of hf (by omega) ha]
    simp only [Option.bind_some]
    obtain ⟨x, hx⟩ := Write_of [byts a0 S[k]] (tS W0 (fed a0 S k)).1 (tS W0 (fed a0 S k)).2 ((fed a0 S k).length : Int) (tS_len _ _ _ (Nat.le_refl _)).1 (by simp) (by simp; omega) (by omega)
    rw [hx]
    simp only [Option.bind_some, List.flatten_cons, List.flatten_nil, List.append_nil]
    rw [inc64 hk (by omega), ← tS_app _ W0 (fed a0 S k) _ (Nat.le_refl _), fed_succ hk, List.length_append]
    simp
  · unfold G.patch_Verify_l1
    rw [hy, if_neg (by simp only; omega), fed_all]
  · rw [show fed a0 S 0 = [] from rfl, tS_lt (by simp)]; rfl
def IsVer (a0 : List UInt8) (d : G.Delta) (e p : Int) : Prop :=
  (e ≠ 0 ∧ IsChk d e p) ∨ (VD d ∧ ((d.oldLen ≠ (a0.length : Int) ∧ e = 13 ∧ p = (a0.length : Int)) ∨
    (d.oldLen = (a0.length : Int) ∧ hashEq (shaD a0) d.oldHash = false ∧ e = 14 ∧ p = 0) ∨
    (d.oldLen = (a0.length : Int) ∧ hashEq (shaD a0) d.oldHash = true ∧ ∃ S, Sm d S ∧ p = 0 ∧ ((hashEq (shaD (file a0 S)) d.newHash = false ∧ e = 15) ∨ (hashEq (shaD (file a0 S)) d.newHash = true ∧ e = 0)))))
theorem Verify_of (ha : a0.length ≤ 1000000) (hc : d.commands.length ≤ 1000) (hn : d.newLen ≤ 3000) :
    ∃ e p, IsVer a0 d e p ∧ G.patch_Verify a0 d = some ⟨e, p⟩ ∧ G.graftref08_Verify a0 d keysR = some (e, p) := by
  obtain ⟨e, p, h1, h2, h3⟩ := Check5 (d := d) (by omega)
  unfold G.patch_Verify G.graftref08_Verify
  rw [h2, h3]
  simp only [Option.bind_some]
  by_cases he : e = 0
  · obtain ⟨k1, k2⟩ := h1.zero
    have hp := k2 he
    have hv := k1.1 he
    rw [if_neg (by simp [he, hp]), if_neg (show ¬ (e ≠ 0) from fun h => h he)]
    by_cases hl : d.oldLen = (a0.length : Int)
    · rw [if_neg (show ¬ (d.oldLen ≠ (a0.length : Int)) from fun h => h hl), if_neg (show ¬ (d.oldLen ≠ (a0.length : Int)) from fun h => h hl), Of_of _ (by simp) (by simp; omega), With02_keys (by omega)]
      simp only [Option.bind_some, List.flatten_cons, List.flatten_nil, List.append_nil]
      cases hh : hashEq (shaD a0) d.oldHash
      · rw [if_pos rfl, if_pos rfl]
        exact ⟨_, _, .inr ⟨hv, .inr (.inl ⟨hl, hh, rfl, rfl⟩)⟩, rfl, rfl⟩
      · rw [if_neg (by simp), if_neg (by simp)]
        obtain ⟨S, hS⟩ := Sm_of hv hc hn
        have fl := file_len (a0 := a0) hS
        rw [New_of, hS.sort, refApply_of hS hl ha]
        simp only [Option.bind_some]
        rw [Verify_loop hS hl ha rfl, With02_keys (by omega)]
        simp only [Option.bind_some]
        rw [Sum_of _ _ _ (tS_len _ _ _ (Nat.le_refl _)).1]
        simp only [Option.bind_some]
        rw [show HS (tS W0 (file a0 S)).1 (tS W0 (file a0 S)).2 ((file a0 S).length : Int) = shaD (file a0 S) from rfl]
        cases hk : hashEq (shaD (file a0 S)) d.newHash
        · rw [if_pos rfl, if_pos rfl]
          exact ⟨_, _, .inr ⟨hv, .inr (.inr ⟨hl, hh, S, hS, rfl, .inl ⟨hk, rfl⟩⟩)⟩, rfl, rfl⟩
        · rw [if_neg (by simp), if_neg (by simp)]
          exact ⟨_, _, .inr ⟨hv, .inr (.inr ⟨hl, hh, S, hS, rfl, .inr ⟨hk, rfl⟩⟩)⟩, rfl, rfl⟩
    · rw [if_pos hl, if_pos hl]
      exact ⟨_, _, .inr ⟨hv, .inl ⟨hl, rfl, rfl⟩⟩, rfl, rfl⟩
  · rw [if_pos (by simp [he]), if_pos (show e ≠ 0 from he)]
    exact ⟨_, _, .inl ⟨he, h1⟩, rfl, rfl⟩
theorem Verify_ok (h : Sm d S) (hl : d.oldLen = (a0.length : Int)) (ha : a0.length ≤ 1000000) (h1 : hashEq (shaD a0) d.oldHash = true) (h2 : hashEq (shaD (file a0 S)) d.newHash = true) : G.patch_Verify a0 d = some ⟨0, 0⟩ := by
  have fl := file_len (a0 := a0) h
  have hn := h.new
  unfold G.patch_Verify
  rw [(Check_valid (by have := h.len; omega) h.vd).1]
  simp only [Option.bind_some]
  rw [if_neg (by simp), if_neg (by simpa using hl), Of_of _ (by simp) (by simp; omega)]
  simp only [Option.bind_some, List.flatten_cons, List.flatten_nil, List.append_nil]
  rw [if_neg (by simp [h1]), New_of, h.sort]
  simp only [Option.bind_some]
  rw [Verify_loop h hl ha rfl]
  simp only [Option.bind_some]
  rw [Sum_of _ _ _ (tS_len _ _ _ (Nat.le_refl _)).1]
  simp only [Option.bind_some]
  rw [show HS (tS W0 (file a0 S)).1 (tS W0 (file a0 S)).2 ((file a0 S).length : Int) = shaD (file a0 S) from rfl, if_neg (by simp [h2])]
end
end G
theorem G.graftlaw08_PatchVerifies_true (a0 : List UInt8) (a1 : G.Delta) (_h0 : Len a0) (h1 : G.Delta.Ok a1) : G.graftlaw08_PatchVerifies a0 a1 = some true := by
  unfold G.graftlaw08_PatchVerifies
  rw [Few5_of a1 h1.2.2.1, alive8]
  by_cases hl : (a0.length : Int) > 300
  · rw [if_pos hl]; rfl
  rw [if_neg hl]
  cases hf : few5 a1 with
  | false => rfl
  | true =>
  simp only [Option.bind_some, Bool.true_eq_false, if_false]
  by_cases hn : a1.newLen > 3000
  · rw [decide_eq_true hn]; rfl
  rw [decide_eq_false hn, Table_keys]
  simp only [Option.bind_some, Bool.false_eq_true, if_false, if_true]
  obtain ⟨e, p, _, e1, e2⟩ := Verify_of (a0 := a0) (d := a1) (by omega) (by have := (few5_iff.1 hf).2; omega) (by omega)
  rw [e1, e2]
  simp only [Option.bind_some, if_true, beq_self_eq_true]
end Go.Proofs.Ythnhjibbkleneaa
