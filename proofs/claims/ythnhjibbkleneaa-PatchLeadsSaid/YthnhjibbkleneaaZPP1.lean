/- Part of what the laws need: plain words, the walker and its laws, the program's functions. -/
import Derived.Test.YthnhjibbkleneaaZPL
import Derived.Test.YthnhjibbkleneaaZPH2
namespace Go.Proofs.Ythnhjibbkleneaa
open G
namespace G
theorem til_pw : ∀ {L : List G.Command} {a b : Int}, Til a L b → (∀ c ∈ L, 1 ≤ tlen c) → L.Pairwise (fun x y => tend x ≤ y.to) ∧ (∀ c ∈ L, a ≤ c.to) ∧ a ≤ b
  | [], a, b, h, _ => ⟨.nil, by simp, Int.le_of_eq h⟩
  | c :: L, a, b, ⟨h1, h2⟩, hl => by
    obtain ⟨k1, k2, k3⟩ := til_pw h2 fun x hx => hl x (List.mem_cons_of_mem _ hx)
    have h3 := hl c List.mem_cons_self
    have h4 : tend c = c.to + tlen c := rfl
    refine ⟨.cons k2 k1, fun x hx => ?_, by omega⟩
    rcases List.mem_cons.1 hx with rfl | hx
    · omega
    · have := k2 x hx; omega
theorem tilCov : ∀ {L : List G.Command} {a b : Int}, Til a L b → ∀ o, a ≤ o → o < b → Cov L o
  | [], a, b, h, o, h1, h2 => by have h : a = b := h; omega
  | c :: L, a, b, ⟨h1, h2⟩, o, h3, h4 => by
    by_cases h : o < tend c
    · exact ⟨c, List.mem_cons_self, by omega, h⟩
    · obtain ⟨x, hx, k⟩ := tilCov h2 o (by omega) h4
      exact ⟨x, List.mem_cons_of_mem _ hx, k⟩
theorem vd_til {d : G.Delta} (hR : InR d) (hg : ∀ c ∈ d.commands, Good d c) (ht : Til 0 d.commands d.newLen) : VD d := by
  refine ⟨hR, hg, ?_, tilCov ht⟩
  have hp := (til_pw ht fun c hc => (hg c hc).len1).1
  rw [List.pairwise_iff_getElem] at hp
  rintro ⟨i, j, hi, hj, hne, h⟩
  rw [cat_getElem hi, cat_getElem hj] at h
  unfold ov at h
  rw [decide_eq_true_eq] at h
  have := (hg _ (List.getElem_mem hi)).len1
  rcases Nat.lt_or_gt_of_ne hne with k | k
  · have := hp i j hi hj k; omega
  · have := hp j i hj hi k; omega
section
variable {old new : List UInt8} {blk : Int}
def fl (new : List UInt8) (l : List G.Command) (fr p : Nat) : List G.Command := if fr < p then l ++ [⟨2, (fr : Int), 0, 0, (new.take p).drop fr⟩] else l
theorem flush_of {l : List G.Command} {fr p : Nat} (hp : p ≤ new.length) (hn : new.length ≤ 10000) (hl : l.length ≤ 100000) : G.patch_Make_1x (p : Int) (fr : Int) l new = some (fl new l fr p) := by
  unfold G.patch_Make_1x fl
  by_cases h : fr < p
  · rw [if_pos (by omega), if_pos h, slcMid_of (by omega)]
    simp only [Option.bind_some, Int.toNat_natCast]
    rw [Literal_of _ _ (by simp; omega) (by simp)]
    simp only [Option.bind_some]
    rw [app_of (by simp; omega)]
    simp
  · rw [if_neg (by omega), if_neg h]; rfl
def mkS (p : Nat) (l : List G.Command) (fr : Nat) : Int × Int × Int × (Nat → UInt8) × (Nat → UInt8) × (List G.Command) × (List G.Command) × Int := ((p : Int), (0 : Int), (0 : Int), (fun _ => 0), (fun _ => 0), ([] : List G.Command), l, (fr : Int))
theorem mk_miss {p fr : Nat} {l : List G.Command} {q n : Int} (hp : p < new.length) (hn : new.length ≤ 10000) (hm : G.patch_matcher_1 (new.drop p) blk old = some (q, n)) (hq : q < 0) : G.patch_Make_l1 new (blk, old) (mkS p l fr) = some (.inl (mkS (p + 1) l fr)) := by
  unfold G.patch_Make_l1 mkS
  rw [if_pos (by simp only; omega), slcFrom_of (by simp only; omega)]
  simp only [Option.bind_some, Int.toNat_natCast, hm]
  rw [if_pos hq, inc64 hp (by omega)]
theorem mk_hit {p fr : Nat} {l : List G.Command} {q n : Nat} (hp : p < new.length) (hn : new.length ≤ 10000) (hl : l.length ≤ 10000) (hpn : p + n ≤ new.length) (hm : G.patch_matcher_1 (new.drop p) blk old = some ((q : Int), (n : Int))) :
    G.patch_Make_l1 new (blk, old) (mkS p l fr) = some (.inl (mkS (p + n) (fl new l fr p ++ [⟨1, (p : Int), (q : Int), (n : Int), []⟩]) (p + n))) := by
  have hfl : (fl new l fr p).length ≤ l.length + 1 := by unfold fl; split <;> simp
  unfold G.patch_Make_l1 mkS
  rw [if_pos (by simp only; omega), slcFrom_of (by simp only; omega)]
  simp only [Option.bind_some, Int.toNat_natCast, hm]
  rw [if_neg (by omega), flush_of (by omega) hn (by omega)]
  simp only [Option.bind_some]
  unfold G.command_Copy
  simp only [Option.bind_some]
  rw [app_of (by simp; omega)]
  simp only [Option.bind_some]
  rw [wr (k := p + n) (by omega) (by omega)]
theorem mk_end {p fr : Nat} {l : List G.Command} (hp : ¬ p < new.length) : G.patch_Make_l1 new (blk, old) (mkS p l fr) = some (.inr (mkS p l fr)) := by
  unfold G.patch_Make_l1 mkS
  rw [if_neg (by simp only; omega)]
theorem Describe_of {L : List G.Command} (ho : old.length ≤ 10000) (hn : new.length ≤ 10000) (hL : L.length ≤ 100000) (hd : ∀ c ∈ L, c.data.length ≤ 100000) : G.patch_Describe old new L = some ⟨(old.length : Int), (new.length : Int), shaD old, shaD new, L⟩ := by
  unfold G.patch_Describe
  rw [Of_of _ (by simp) (by simp; omega), Of_of _ (by simp) (by simp; omega)]
  simp only [Option.bind_some, List.flatten_cons, List.flatten_nil, List.append_nil]
  rw [With_of _ _ (fun c hc => by have := hd c hc; omega) (by omega)]
  rfl
theorem Make_of {p fr : Nat} {l L : List G.Command} (ho : old.length ≤ 10000) (hn : new.length ≤ 10000) (hi : Iter (G.patch_Make_l1 new (blk, old)) (mkS 0 [] 0) = some (mkS p l fr)) (hp : p ≤ new.length) (hl : l.length ≤ 10000) (hL : L = fl new l fr p) (hd : ∀ c ∈ L, c.data.length ≤ 100000) : G.patch_Make old new blk = some ⟨(old.length : Int), (new.length : Int), shaD old, shaD new, L⟩ := by
  unfold G.patch_Make G.patch_matcher
  simp only [Option.bind_some]
  rw [show ((0 : Int), (0 : Int), (0 : Int), (fun _ => (0 : UInt8)), (fun _ => (0 : UInt8)), ([] : List G.Command), ([] : List G.Command), (0 : Int)) = mkS 0 [] 0 from rfl, hi]
  simp only [Option.bind_some, mkS]
  rw [flush_of hp hn (by omega), ← hL]
  simp only [Option.bind_some]
  have hLl : L.length ≤ 100000 := by rw [hL]; unfold fl; split <;> (try rw [List.length_append]; simp only [List.length_cons, List.length_nil]) <;> omega
  rw [Describe_of ho hn hLl hd]
  rfl
end
def oE : List UInt8 := [97, 98, 99, 100, 101, 102]
def nE : List UInt8 := [120, 99, 100, 101, 102, 97, 98]
def lE : List G.Command := [⟨2, 0, 0, 0, [120]⟩, ⟨1, 1, 2, 4, []⟩, ⟨1, 5, 0, 2, []⟩]
theorem mE0 : G.patch_matcher_1 (nE.drop 0) 2 oE = some (-1, 0) := by kernel_rfl
theorem mE1 : G.patch_matcher_1 (nE.drop 1) 2 oE = some (((2 : Nat) : Int), ((4 : Nat) : Int)) := by
  have h : Iter (G.patch_matcher_1_l1 (nE.drop 1) oE 2) 2 = some 4 := Iter_run 4 (by kernel_rfl)
  have e : G.patch_matcher_1 (nE.drop 1) 2 oE = (Iter (G.patch_matcher_1_l1 (nE.drop 1) oE 2) 2).bind fun v => some (2, v) := by kernel_rfl
  rw [e, h]; rfl
theorem mE5 : G.patch_matcher_1 (nE.drop 5) 2 oE = some (((0 : Nat) : Int), ((2 : Nat) : Int)) := by
  have h : Iter (G.patch_matcher_1_l1 (nE.drop 5) oE 0) 2 = some 2 := Iter_run 4 (by kernel_rfl)
  have e : G.patch_matcher_1 (nE.drop 5) 2 oE = (Iter (G.patch_matcher_1_l1 (nE.drop 5) oE 0) 2).bind fun v => some (0, v) := by kernel_rfl
  rw [e, h]; rfl
noncomputable def dE : G.Delta := ⟨6, 7, shaD oE, shaD nE, lE⟩
theorem makeE : G.patch_Make oE nE 2 = some dE := by
  refine Make_of (p := 7) (fr := 7) (l := lE) (L := lE) (by decide) (by decide) ?_ (by decide) (by decide) (by rfl) (by decide)
  rw [Iter_inl (mk_miss (by decide) (by decide) mE0 (by decide)), Iter_inl (mk_hit (p := 1) (by decide) (by decide) (by decide) (by decide) mE1), Iter_inl (mk_hit (p := 1 + 4) (by decide) (by decide) (by decide) (by decide) mE5)]
  exact Iter_inr (mk_end (by decide))
theorem dE_vd : VD dE := by
  refine vd_til (by unfold InR dE; simp) (fun c hc => ?_) ⟨rfl, rfl, rfl, rfl⟩
  have hc : c = ⟨2, 0, 0, 0, [120]⟩ ∨ c = ⟨1, 1, 2, 4, []⟩ ∨ c = ⟨1, 5, 0, 2, []⟩ := by simpa [dE, lE] using hc
  rcases hc with rfl | rfl | rfl
  · exact ⟨by decide, by decide, by show (1 : Int) ≤ 7; decide, by decide, (fun h => by cases h), fun _ => ⟨rfl, rfl, rfl⟩⟩
  · exact ⟨by decide, by decide, by show (5 : Int) ≤ 7; decide, by decide, fun _ => ⟨by decide, by decide, by show (6 : Int) ≤ 6; decide, by decide, rfl⟩, fun h => absurd rfl h⟩
  · exact ⟨by decide, by decide, by show (7 : Int) ≤ 7; decide, by decide, fun _ => ⟨by decide, by decide, by show (2 : Int) ≤ 6; decide, by decide, rfl⟩, fun h => absurd rfl h⟩
theorem dE_sm : Sm dE lE := ⟨dE_vd, by decide, by show (7 : Int) ≤ 3000; decide, List.Perm.refl _, ⟨rfl, rfl, rfl, rfl⟩⟩
theorem alive8 : G.graftlaw08_alive = some true := by
  unfold G.graftlaw08_alive
  rw [show [(u8 97), (u8 98), (u8 99), (u8 100), (u8 101), (u8 102)] = oE from by kernel_rfl, show [(u8 120), (u8 99), (u8 100), (u8 101), (u8 102), (u8 97), (u8 98)] = nE from by kernel_rfl,
    show [(⟨(2 : Int), (0 : Int), (0 : Int), (0 : Int), [(u8 120)]⟩ : G.Command), (⟨(1 : Int), (1 : Int), (2 : Int), (4 : Int), ([] : List UInt8)⟩ : G.Command), (⟨(1 : Int), (5 : Int), (0 : Int), (2 : Int), ([] : List UInt8)⟩ : G.Command)] = lE from by kernel_rfl, makeE]
  simp only [Option.bind_some]
  rw [All_eq _ _ (by decide), Apply_of dE_sm rfl (by decide)]
  rfl
end G
end Go.Proofs.Ythnhjibbkleneaa
