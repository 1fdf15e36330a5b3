/- Part of what the laws need: plain words, the walker and its laws, the program's functions. -/
import Derived.Test.YtekpafdhgkocaaaGreatZPH1
namespace Go.Proofs.YtekpafdhgkocaaaGreat
open G
namespace G
theorem tG (a : List UInt8) (h : a.length ≤ 140737488355328) : G.bJ a = some a := by
 unfold G.bJ
 cases a with
 | nil =>
   show qB _ ((app 1 ([] : List UInt8) []).bind fun y => some y) = _
   rw [eF (by simp)]; exact CM _
 | cons x l =>
   show ((app 1 ([] : List UInt8) (x :: l)).bind fun y => some y) = _
   rw [eF (by simp at h ⊢; omega)]; rfl
theorem O2 {k : Nat} : Int.tmod (k : Int) 64 = ((k % 64 : Nat) : Int) := by
 rw [Int.tmod_eq_emod_of_nonneg (by omega)]; omega
theorem FB (w : Nat → Int) (r : List UInt8) (n : Int) (h : r.length < 64) : ∃ x, G.dJ w r n = some x := by
 unfold G.dJ
 have e1 : Int.tmod (IntKind.i64.wrap ((119 : Int) - (r.length : Int))) 64 = (((119 - r.length) % 64 : Nat) : Int) := by
  rw [wr (k := 119 - r.length) (by omega) (by omega)]; exact O2
 rw [e1, bg (by omega)]
 simp only [Option.bind_some]
 rw [eF (by simp; omega)]
 simp only [Option.bind_some]
 obtain ⟨v3, h3, l3⟩ := bP (f := G.cj n) (fun m s => -1 ≤ s.2 ∧ s.2 ≤ 7 ∧ (m : Int) = s.2 + 1 ∧ s.1.length + m ≤ 200) (fun x => x.length ≤ 200) (by
  rintro m ⟨l, i⟩ ⟨h1, h2, h4, h5⟩
  simp only at h1 h2 h4 h5
  unfold G.cj
  by_cases hi : 0 ≤ i
  · left
    rw [if_pos (by simp only; omega)]
    simp only [eK (x := (8 : Int) * i) (by omega) (by omega), eK (x := i - 1) (by omega) (by omega)]
    rw [bg (by omega)]
    simp only [Option.bind_some]
    rw [eF (by simp; omega)]
    exact ⟨m - 1, _, rfl, by omega, by simp only; omega, by simp only; omega, by simp only; omega, by simp; omega⟩
  · right
    rw [if_neg (by simp only; omega)]
    exact ⟨_, rfl, by simp only; omega⟩) 8 ([(u8 128)] ++ List.replicate (((119 - r.length) % 64 : Nat) : Int).toNat (0 : UInt8), 7) ⟨by simp, by simp, by simp, by simp; omega⟩
 rw [h3]
 simp only [Option.bind_some]
 rw [Ct, AP _ _ _ _ (by omega)]
 simp only [Option.bind_some]
 generalize ((tS w (r ++ v3)).1, (tS w (r ++ v3)).2, IntKind.i64.wrap (n + (v3.length : Int))) = y
 obtain ⟨x, hx, _⟩ := bP (f := G.cO y) (fun m s => ∃ i : Nat, s.1 = (i : Int) ∧ i ≤ 32 ∧ m = 32 - i) (fun _ => True) (by
  rintro m ⟨_, f⟩ ⟨i, hi, h16, rfl⟩
  simp only at hi; subst hi
  unfold G.cO
  by_cases hlt : i < 32
  · left
    have d1 : Int.tdiv (i : Int) 4 = ((i / 4 : Nat) : Int) := by rw [Int.tdiv_eq_ediv_of_nonneg (by omega)]; omega
    have d2 : Int.tmod (i : Int) 4 = ((i % 4 : Nat) : Int) := by rw [Int.tmod_eq_emod_of_nonneg (by omega)]; omega
    rw [if_pos (by simp only; omega)]
    simp only [d1, d2, wr (k := i / 4) rfl (by omega), eK (x := ((i % 4 : Nat) : Int) * 8) (by omega) (by omega), eK (x := (24 : Int) - ((i % 4 : Nat) : Int) * 8) (by omega) (by omega), wr (k := i + 1) (show (i : Int) + 1 = ((i + 1 : Nat) : Int) by omega) (by omega)]
    rw [bg (by omega), bg (by omega), bg (by omega)]
    exact ⟨32 - (i + 1), _, rfl, by omega, i + 1, rfl, by omega, rfl⟩
  · right
    rw [if_neg (by simp only; omega)]
    exact ⟨_, rfl, trivial⟩) 32 ((0 : Int), (fun _ => 0)) ⟨0, rfl, by omega, rfl⟩
 exact ⟨x, hx⟩
noncomputable def HS (w : Nat → Int) (r : List UInt8) (n : Int) : Nat → UInt8 := (G.fz w r n).getD fun _ => 0
theorem LZ (w : Nat → Int) (r : List UInt8) (n : Int) (h : r.length < 64) : G.fz w r n = some (HS w r n) := by
 obtain ⟨x, hx⟩ := FB w r n h
 have e : ∃ y, G.fz w r n = some y := by
  unfold G.fz G.gF
  rw [tG r (by omega)]
  simp only [Option.bind_some]
  rw [hx]; exact ⟨_, rfl⟩
 obtain ⟨y, hy⟩ := e
 unfold HS
 rw [hy]; rfl
theorem GI : ∃ w, G.sY = some (w, [], 0) := ⟨_, rfl⟩
noncomputable def W0 : Nat → Int := GI.choose
theorem GJ : G.sY = some (W0, [], 0) := GI.choose_spec
theorem zd {α : Type} {l : List (List α)} {k : Nat} (h : k < l.length) : (l.take (k + 1)).flatten = (l.take k).flatten ++ l[k] := by
 rw [List.take_succ_eq_append_getElem h, List.flatten_append]; simp
theorem JN {α : Type} (l : List (List α)) (k : Nat) : (l.take k).flatten.length ≤ l.flatten.length := by
 have := congrArg (fun l => l.flatten.length) (List.take_append_drop k l)
 simp only [List.flatten_append, List.length_append] at this
 omega
theorem GP (l : List (List UInt8)) (w : Nat → Int) (r : List UInt8) (n : Int) (hr : r.length < 64) (hl : l.length ≤ 1000000) (hf : l.flatten.length ≤ 1000000000) (hn : 0 ≤ n ∧ n ≤ 1000000000000) :
 ∃ x, G.iX l w r n = some (x, (tS w (r ++ l.flatten)).1, (tS w (r ++ l.flatten)).2, n + (l.flatten.length : Int)) := by
 unfold G.iX
 have key : Iter (G.fW l) ((0 : Int), w, r, n) = some ((tS w (r ++ l.flatten)).1, (tS w (r ++ l.flatten)).2, n + (l.flatten.length : Int)) := by
  refine bA l.length (fun k => ((k : Int), (tS w (r ++ (l.take k).flatten)).1, (tS w (r ++ (l.take k).flatten)).2, n + ((l.take k).flatten.length : Int))) _ (fun k hk => ?_) ?_ ?_
  · have h1 := JN l (k + 1)
    rw [zd hk, List.length_append] at h1
    have h2 := (DN _ w (r ++ (l.take k).flatten) (Nat.le_refl _)).1
    unfold G.fW
    rw [if_pos (by simp only; omega)]
    simp only [dh hk, Option.bind_some]
    rw [AP _ _ _ _ (by omega)]
    simp only [Option.bind_some]
    rw [ea hk (by omega), eK (by omega) (by omega), zd hk, List.length_append, ← List.append_assoc, I1 _ w (r ++ (l.take k).flatten) l[k] (Nat.le_refl _)]
    rw [show n + (((l.take k).flatten.length : Nat) : Int) + (l[k].length : Int) = n + (((l.take k).flatten.length + l[k].length : Nat) : Int) by omega]
  · unfold G.fW
    rw [if_neg (by simp only; omega), List.take_length]
  · simp [zL (w := w) (r := r) (by omega)]
 rw [key]
 exact ⟨_, rfl⟩
noncomputable def sX (x : List UInt8) : Nat → UInt8 := HS (tS W0 x).1 (tS W0 x).2 (x.length : Int)
theorem NZ (l : List (List UInt8)) (hl : l.length ≤ 1000000) (hf : l.flatten.length ≤ 1000000000) : G.AM l = some (sX l.flatten) := by
 unfold G.AM
 rw [GJ]
 simp only [Option.bind_some]
 obtain ⟨x, hx⟩ := GP l W0 [] 0 (by simp) hl hf (by omega)
 rw [hx]
 simp only [Option.bind_some, List.nil_append, Int.zero_add]
 rw [LZ _ _ _ (DN _ _ _ (Nat.le_refl _)).1]
 rfl
end G
end Go.Proofs.YtekpafdhgkocaaaGreat
