/- Encoding, plain: whole deltas. -/
import Derived.Test.YtkalbidbhaalmaaPEnc
namespace Go.Proofs.Ytkalbidbhaalmaa
open G
theorem in7 (x : Int) : G.graftref07_in x = some (inM x) := by
  unfold G.graftref07_in G.graftref01_Max inM
  by_cases h : x ≥ 0
  · rw [if_pos h]; simp only [Option.bind_some]; congr 1; rw [decide_eq_decide]; omega
  · rw [if_neg h]; congr 1; symm; rw [decide_eq_false_iff_not]; omega
def refBad (c : G.Command) : Bool := !(inM c.to && inM c.from_ && inM c.len) || (if c.kind = 1 then !c.data.isEmpty else if c.kind = 2 then !(c.from_ == 0 && c.len == 0) else false)
theorem wl1 (d : G.Delta) (k : Nat) (h : k < d.commands.length) (hn : d.commands.length ≤ 9223372036854775807) {x : Int ⊕ Int} (hx : (if refBad d.commands[k] = true then Sum.inr 2 else Sum.inl ((k + 1 : Nat) : Int)) = x) : G.graftref07_Wrong_l1 d (k : Int) = some x := by
  subst hx
  unfold G.graftref07_Wrong_l1
  rw [if_pos (by omega), idx_of h]
  simp only [Option.bind_some, in7]
  generalize d.commands[k] = c
  rw [inc64 h hn]
  have e : ((c.data.length : Int) > 0) ↔ ¬ c.data.isEmpty = true := by cases c.data <;> simp <;> omega
  unfold refBad
  simp only [e]
  by_cases h1 : c.kind = 1
  · have h2 : ¬ c.kind = 2 := by omega
    simp only [h1, if_true]
    cases inM c.to <;> cases inM c.from_ <;> cases inM c.len <;> cases c.data.isEmpty <;> rfl
  · simp only [h1, if_false]
    by_cases h2 : c.kind = 2
    · simp only [h2, if_true]
      by_cases hf : c.from_ = 0
      · simp only [hf, ne_eq, not_true, if_false]
        have : (c.len != 0) = !(c.len == 0) := rfl
        rw [this]
        cases inM c.to <;> cases inM 0 <;> cases inM c.len <;> cases (c.len == 0) <;> rfl
      · have : (c.from_ == 0) = false := by simpa using hf
        simp only [hf, ne_eq, not_false_iff, if_true, this]
        cases inM c.to <;> cases inM c.from_ <;> cases inM c.len <;> rfl
    · simp only [h2, if_false]
      cases inM c.to <;> cases inM c.from_ <;> cases inM c.len <;> rfl
theorem Wrong_q (d : G.Delta) (hn : d.commands.length ≤ 9223372036854775807) : G.graftref07_Wrong d = some (wrong d) := by
  unfold G.graftref07_Wrong wrong
  have hK := Iter_each (f := G.graftref07_Wrong_l2 d) d.commands (fun c => !okK c) (fun k => (k : Int)) (fun _ => .inr 11) (.inl ()) (fun k h hb => ?_) (fun k h hb => ?_) ?_ (s := 0) rfl
  · rcases hK with ⟨ha, he⟩ | ⟨k, h, hb, _, he⟩
    · have hall : d.commands.all okK = true := by rw [List.all_eq_true]; intro x hx; simpa using ha x hx
      rw [he, hall, if_neg (by simp)]
      simp only [Option.bind_some, joinK_inl, in7]
      have e2 : ∀ F : Bool → Option Int, ((if inM d.oldLen = false then some true else some (!inM d.newLen)) : Option Bool).bind F = F (!(inM d.oldLen && inM d.newLen)) := fun F => by
        cases inM d.oldLen <;> rfl
      rw [e2]
      by_cases h2 : (inM d.oldLen && inM d.newLen) = true
      · rw [h2, if_neg (by simp)]
        have hR := Iter_each (f := G.graftref07_Wrong_l1 d) d.commands refBad (fun k => (k : Int)) (fun _ => 2) 0 (fun k h hb => ?_) (fun k h hb => ?_) ?_ (s := 0) rfl
        · have hc : ∀ c ∈ d.commands, refBad c = !okC c := by
            intro c hc
            have hk := List.all_eq_true.mp hall c hc
            unfold okK at hk
            unfold refBad okC
            by_cases h1 : c.kind = 1
            · rw [if_pos h1, if_pos h1]; cases inM c.to <;> cases inM c.from_ <;> cases inM c.len <;> simp
            · have h2 : c.kind = 2 := by simpa [h1] using hk
              rw [if_neg h1, if_pos h2, if_neg h1]
              by_cases hf : c.from_ = 0
              · by_cases hl : c.len = 0
                · simp [hf, hl, inM]
                · have : (c.len == 0) = false := by simpa using hl
                  simp [this]
              · have : (c.from_ == 0) = false := by simpa using hf
                simp [this]
          rcases hR with ⟨ha, he⟩ | ⟨k, h, hb, _, he⟩
          · have : d.commands.all okC = true := by rw [List.all_eq_true]; intro x hx; have := ha x hx; rw [hc x hx] at this; simpa using this
            rw [he, this]; rfl
          · have : d.commands.all okC = false := by
              rw [List.all_eq_false]; refine ⟨_, List.getElem_mem h, ?_⟩
              rw [hc _ (List.getElem_mem h)] at hb; simpa using hb
            rw [he, this]; rfl
        · exact wl1 d k h hn (by rw [hb]; rfl)
        · exact wl1 d k h hn (by rw [hb]; rfl)
        · unfold G.graftref07_Wrong_l1; rw [if_neg (by omega)]
      · rw [if_neg (show ¬ (inM d.oldLen && inM d.newLen && d.commands.all okC) = true by simp only [Bool.and_eq_true] at h2 ⊢; exact fun k => h2 k.1)]
        rw [show (inM d.oldLen && inM d.newLen) = false by simpa using h2]; rfl
    · have : d.commands.all okK = false := by rw [List.all_eq_false]; exact ⟨_, List.getElem_mem h, by simpa using hb⟩
      rw [he, this]; rfl
  · unfold G.graftref07_Wrong_l2
    rw [if_pos (by omega), idx_of h]
    simp only [Option.bind_some]
    generalize d.commands[k] = c at *
    rw [inc64 h hn]
    unfold okK at hb
    by_cases h1 : c.kind = 1
    · simp [h1]
    · have h2 : c.kind = 2 := by simpa [h1] using hb
      simp [h2]
  · unfold G.graftref07_Wrong_l2
    rw [if_pos (by omega), idx_of h]
    simp only [Option.bind_some]
    generalize d.commands[k] = c at *
    unfold okK at hb
    simp at hb
    simp [hb.1, hb.2]
  · unfold G.graftref07_Wrong_l2; rw [if_neg (by omega)]
def encC (c : G.Command) : List UInt8 := be 1 c.kind.toNat ++ (be 8 c.to.toNat ++ (if c.kind = 1 then be 8 c.from_.toNat ++ be 8 c.len.toNat else be 8 c.data.length ++ c.data))
def encH (d : G.Delta) : List UInt8 := magic ++ (be 1 1 ++ (be 8 d.oldLen.toNat ++ (be 8 d.newLen.toNat ++ (arrL 32 d.oldHash ++ (arrL 32 d.newHash ++ be 4 d.commands.length)))))
/-- The encoding of a delta. -/
def enc (d : G.Delta) : List UInt8 := encH d ++ d.commands.flatMap encC
theorem arrL_len {α : Type} (n : Nat) (f : Nat → α) : (arrL n f).length = n := by simp [arrL]
theorem encH_len (d : G.Delta) : (encH d).length = 89 := by simp [encH, be_len, arrL_len, magic]
theorem inM_nat {x : Int} (h : inM x = true) : ∃ n : Nat, x = (n : Int) ∧ n ≤ 4611686018427387903 := by
  unfold inM at h; simp at h; exact ⟨x.toNat, by omega, by omega⟩
theorem uw {n : Nat} (h : n ≤ 4611686018427387903) : IntKind.u64.wrap (n : Int) = (n : Int) := wu64 (by omega) (by omega)
/-- A command that may be encoded. -/
structure Good (c : G.Command) : Prop where
  k : c.kind = 1 ∨ c.kind = 2
  to : ∃ n : Nat, c.to = (n : Int) ∧ n ≤ 4611686018427387903
  copy : c.kind = 1 → ∃ f l : Nat, c.from_ = (f : Int) ∧ f ≤ 4611686018427387903 ∧ c.len = (l : Int) ∧ l ≤ 4611686018427387903 ∧ c.data = []
  lit : c.kind = 2 → c.from_ = 0 ∧ c.len = 0
theorem good_of {c : G.Command} (hk : okK c = true) (hc : okC c = true) : Good c := by
  unfold okK at hk; unfold okC at hc
  by_cases h1 : c.kind = 1
  · rw [if_pos h1] at hc
    simp only [Bool.and_eq_true, List.isEmpty_iff] at hc
    obtain ⟨f, e1, e2⟩ := inM_nat hc.1.1.2
    obtain ⟨l, e3, e4⟩ := inM_nat hc.1.2
    exact ⟨.inl h1, inM_nat hc.1.1.1, fun _ => ⟨f, l, e1, e2, e3, e4, hc.2⟩, fun k => by omega⟩
  · have h2 : c.kind = 2 := by simpa [h1] using hk
    rw [if_neg h1] at hc
    simp only [Bool.and_eq_true, beq_iff_eq] at hc
    exact ⟨.inr h2, inM_nat hc.1.1, fun k => by omega, fun _ => ⟨hc.1.2, hc.2⟩⟩
structure GoodD (d : G.Delta) : Prop where
  old : ∃ n : Nat, d.oldLen = (n : Int) ∧ n ≤ 4611686018427387903
  new : ∃ n : Nat, d.newLen = (n : Int) ∧ n ≤ 4611686018427387903
  all : ∀ c ∈ d.commands, Good c
theorem good_d {d : G.Delta} (h : wrong d = 0) : GoodD d := by
  unfold wrong at h
  split at h
  · cases h
  · rename_i hk
    split at h
    · rename_i hc
      simp only [Bool.and_eq_true] at hc
      simp only [Bool.not_eq_false] at hk
      exact ⟨inM_nat hc.1.1, inM_nat hc.1.2, fun c hm => good_of (List.all_eq_true.mp hk c hm) (List.all_eq_true.mp hc.2 c hm)⟩
    · cases h
theorem flat_le {α β : Type} (l : List α) (f : α → List β) (k : Nat) (h : k < l.length) : ((l.take k).flatMap f).length + (f l[k]).length ≤ (l.flatMap f).length := by
  have e : l.flatMap f = (l.take k).flatMap f ++ (f l[k] ++ (l.drop (k + 1)).flatMap f) := by
    conv => lhs; rw [← List.take_append_drop k l, List.drop_eq_getElem_cons h]
    rw [List.flatMap_append, List.flatMap_cons]
  rw [e]; simp
theorem flat_succ {α β : Type} (l : List α) (f : α → List β) (k : Nat) (h : k < l.length) : (l.take (k + 1)).flatMap f = (l.take k).flatMap f ++ f l[k] := by
  rw [List.take_succ_eq_append_getElem h, List.flatMap_append]; simp
theorem Encode_q {d : G.Delta} (h : GoodD d) (hn : d.commands.length < 4294967296) (hs : (enc d).length ≤ 140737488355328) : G.graftref07_Encode d = some (enc d) := by
  unfold G.graftref07_Encode
  have hl : (enc d).length = 89 + (d.commands.flatMap encC).length := by unfold enc; rw [List.length_append, encH_len]
  obtain ⟨⟨n1, e1, b1⟩, ⟨n2, e2, b2⟩, hall⟩ := h
  rw [app_of (by decide), e1, e2, uw b1, uw b2, uw (n := d.commands.length) (by omega)]
  simp only [Option.bind_some]
  rw [show (8 : Int) = ((8 : Nat) : Int) from rfl, show (4 : Int) = ((4 : Nat) : Int) from rfl, Append6 _ _ _ (by omega) (by simp)]
  simp only [Option.bind_some]
  rw [Append6 _ _ _ (by omega) (by simp [be_len])]
  simp only [Option.bind_some]
  rw [app_of (by simp [be_len, arrL_len])]
  simp only [Option.bind_some]
  rw [app_of (by simp [be_len, arrL_len])]
  simp only [Option.bind_some]
  rw [Append6 _ _ _ (by omega) (by simp [be_len, arrL_len])]
  simp only [Option.bind_some]
  have eH : (([71, 82, 70, 84] : List UInt8) ++ [1] ++ be 8 n1 ++ be 8 n2 ++ arrL 32 d.oldHash ++ arrL 32 d.newHash ++ be 4 d.commands.length) = encH d := by
    unfold encH; rw [e1, e2]; simp [magic, be_1]
  rw [eH]
  refine Iter_count d.commands.length (fun k => (encH d ++ (d.commands.take k).flatMap encC, (k : Int))) _ (fun k hk => ?_) ?_ (by simp)
  · have hfl := flat_le d.commands encC k hk
    unfold G.graftref07_Encode_l1
    dsimp only
    rw [if_pos (by omega), idx_of hk, flat_succ _ _ _ hk, inc64 hk (by omega)]
    simp only [Option.bind_some]
    have g := hall _ (List.getElem_mem hk)
    generalize d.commands[k] = c at *
    obtain ⟨⟨t, et, bt⟩, hcp, hlt⟩ := And.intro g.to (And.intro g.copy g.lit)
    have hp : (encH d ++ (d.commands.take k).flatMap encC).length + (encC c).length ≤ 140737488355328 := by rw [List.length_append, encH_len]; omega
    have hcl : 17 ≤ (encC c).length := by unfold encC; split <;> simp [be_len] <;> omega
    rw [app_of (by simp at hp ⊢; omega), et, uw bt]
    simp only [Option.bind_some]
    rw [show (8 : Int) = ((8 : Nat) : Int) from rfl, Append6 _ _ _ (by omega) (by simp at hp ⊢; omega)]
    simp only [Option.bind_some]
    have ek : [u8 c.kind] = be 1 c.kind.toNat := by rw [be_1]; rcases g.k with k | k <;> rw [k] <;> rfl
    rw [ek]
    by_cases h1 : c.kind = 1
    · obtain ⟨f, l, ef, bf, el, bl, _⟩ := hcp h1
      have hcl : (encC c).length = 25 := by unfold encC; rw [if_pos h1]; simp [be_len]
      rw [if_pos h1, ef, el, uw bf, uw bl, Append6 _ _ _ (by omega) (by simp [be_len] at hp ⊢; omega)]
      simp only [Option.bind_some]
      rw [Append6 _ _ _ (by omega) (by simp [be_len] at hp ⊢; omega)]
      simp only [Option.bind_some]
      rw [show encC c = be 1 c.kind.toNat ++ (be 8 t ++ (be 8 f ++ be 8 l)) by unfold encC; rw [if_pos h1, et, ef, el]; rfl]
      simp
    · have hcl : (encC c).length = 17 + c.data.length := by unfold encC; rw [if_neg h1]; simp [be_len]; omega
      rw [if_neg h1, uw (n := c.data.length) (by omega), Append6 _ _ _ (by omega) (by simp [be_len] at hp ⊢; omega)]
      simp only [Option.bind_some]
      rw [app_of (by simp [be_len] at hp ⊢; omega)]
      simp only [Option.bind_some]
      rw [show encC c = be 1 c.kind.toNat ++ (be 8 t ++ (be 8 c.data.length ++ c.data)) by unfold encC; rw [if_neg h1, et]; rfl]
      simp
  · unfold G.graftref07_Encode_l1
    rw [if_neg (by simp)]
    simp [enc]
end Go.Proofs.Ytkalbidbhaalmaa
