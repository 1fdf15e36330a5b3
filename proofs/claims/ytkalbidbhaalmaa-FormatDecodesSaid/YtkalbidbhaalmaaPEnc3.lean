/- Encoding, plain: the program's encoder; comparisons. -/
import Derived.Test.YtkalbidbhaalmaaPEnc2
namespace Go.Proofs.Ytkalbidbhaalmaa
open G
theorem Encode_bad {d : G.Delta} (h : wrong d ≠ 0) (hn : d.commands.length ≤ 9223372036854775807) : G.format_Encode d = some ([], wrong d) := by
  unfold G.format_Encode
  rw [check_p d hn]
  simp only [Option.bind_some]
  rw [if_pos h]
theorem p_len (n : Nat) (h : n ≤ 4611686018427387903) : G.format_length (n : Int) = some ⟨(n : Int), 8⟩ := by unfold G.format_length; rw [uw h]
theorem lt8 {n : Nat} (h : n ≤ 4611686018427387903) : n < 256 ^ 8 := by
  have : (256 : Nat) ^ 8 = 18446744073709551616 := by decide
  omega
theorem Encode_p {d : G.Delta} (h : GoodD d) (hw : wrong d = 0) (hn : d.commands.length < 4294967296) (hs : (enc d).length ≤ 140737488355328) : G.format_Encode d = some (enc d, 0) := by
  unfold G.format_Encode
  have hl : (enc d).length = 89 + (d.commands.flatMap encC).length := by unfold enc; rw [List.length_append, encH_len]
  obtain ⟨⟨n1, e1, b1⟩, ⟨n2, e2, b2⟩, hall⟩ := h
  rw [check_p d (by omega), hw]
  simp only [Option.bind_some]
  rw [if_neg (by simp), e1, e2, p_len n1 b1, p_len n2 b2]
  simp only [Option.bind_some]
  have hf := wireA [(1, 1), (n1, 8), (n2, 8)] [71, 82, 70, 84] (by simp; exact ⟨lt8 b1, lt8 b2⟩) (by simp [fbytes, be_len]) (by simp)
  rw [show ([(⟨1, 1⟩ : G.wire_Field), ⟨(n1 : Int), 8⟩, ⟨(n2 : Int), 8⟩] : List G.wire_Field) = flds [(1, 1), (n1, 8), (n2, 8)] from rfl, hf]
  simp only [Option.bind_some]
  rw [app_of (by simp [fbytes, be_len, arrL_len])]
  simp only [Option.bind_some]
  rw [app_of (by simp [fbytes, be_len, arrL_len])]
  simp only [Option.bind_some]
  rw [uw (n := d.commands.length) (by omega), show ([(⟨(d.commands.length : Int), 4⟩ : G.wire_Field)] : List G.wire_Field) = flds [(d.commands.length, 4)] from rfl]
  rw [wireA _ _ (by simp; omega) (by simp [fbytes, be_len, arrL_len]) (by simp)]
  simp only [Option.bind_some]
  have eH : (([71, 82, 70, 84] : List UInt8) ++ fbytes [(1, 1), (n1, 8), (n2, 8)] ++ arrL 32 d.oldHash ++ arrL 32 d.newHash ++ fbytes [(d.commands.length, 4)]) = encH d := by
    unfold encH; rw [e1, e2]; simp [magic, fbytes]
  rw [eH]
  have hit : Iter (G.format_Encode_l1 d) (encH d, 0) = some (enc d) := by
    refine Iter_count d.commands.length (fun k => (encH d ++ (d.commands.take k).flatMap encC, (k : Int))) _ (fun k hk => ?_) ?_ (by simp)
    · have hfl := flat_le d.commands encC k hk
      unfold G.format_Encode_l1
      dsimp only
      rw [if_pos (by omega), idx_of hk, flat_succ _ _ _ hk, inc64 hk (by omega)]
      simp only [Option.bind_some]
      have g := hall _ (List.getElem_mem hk)
      generalize d.commands[k] = c at *
      obtain ⟨⟨t, et, bt⟩, hcp, hlt⟩ := And.intro g.to (And.intro g.copy g.lit)
      have hp : (encH d ++ (d.commands.take k).flatMap encC).length + (encC c).length ≤ 140737488355328 := by rw [List.length_append, encH_len]; omega
      obtain ⟨kn, ekn, bkn⟩ : ∃ n : Nat, c.kind = (n : Int) ∧ n < 256 := by rcases g.k with k | k <;> exact ⟨c.kind.toNat, by omega, by omega⟩
      rw [et, p_len t bt, ekn, uw (n := kn) (by omega)]
      simp only [Option.bind_some]
      by_cases h1 : c.kind = 1
      · obtain ⟨f, l, ef, bf, el, bl, _⟩ := hcp h1
        have hcl : (encC c).length = 25 := by unfold encC; rw [if_pos h1]; simp [be_len]
        rw [if_pos (by omega), ef, el, p_len f bf, p_len l bl]
        simp only [Option.bind_some]
        rw [app_of (by simp)]
        simp only [Option.bind_some]
        rw [show ([(⟨(kn : Int), 1⟩ : G.wire_Field), ⟨(t : Int), 8⟩] : List G.wire_Field) ++ [⟨(f : Int), 8⟩, ⟨(l : Int), 8⟩] = flds [(kn, 1), (t, 8), (f, 8), (l, 8)] from rfl]
        rw [wireA _ _ (by simp; exact ⟨bkn, lt8 bt, lt8 bf, lt8 bl⟩) (by simp [fbytes, be_len] at hp ⊢; omega) (by simp)]
        simp only [Option.bind_some]
        rw [show encC c = be 1 kn ++ (be 8 t ++ (be 8 f ++ be 8 l)) by unfold encC; rw [if_pos h1, et, ef, el, ekn]; rfl]
        simp [fbytes]
      · have hcl : (encC c).length = 17 + c.data.length := by unfold encC; rw [if_neg h1]; simp [be_len]; omega
        rw [if_neg (by omega), p_len c.data.length (by omega)]
        simp only [Option.bind_some]
        rw [app_of (by simp)]
        simp only [Option.bind_some]
        rw [show ([(⟨(kn : Int), 1⟩ : G.wire_Field), ⟨(t : Int), 8⟩] : List G.wire_Field) ++ [⟨(c.data.length : Int), 8⟩] = flds [(kn, 1), (t, 8), (c.data.length, 8)] from rfl]
        rw [wireA _ _ (by simp; exact ⟨bkn, lt8 bt, lt8 (by omega)⟩) (by simp [fbytes, be_len] at hp ⊢; omega) (by simp)]
        simp only [Option.bind_some]
        rw [app_of (by simp [fbytes, be_len] at hp ⊢; omega)]
        simp only [Option.bind_some]
        rw [show encC c = be 1 kn ++ (be 8 t ++ (be 8 c.data.length ++ c.data)) by unfold encC; rw [if_neg h1, et, ekn]; rfl]
        simp [fbytes]
    · unfold G.format_Encode_l1
      rw [if_neg (by simp)]
      simp [enc]
  rw [hit]; rfl
theorem Size_bad {d : G.Delta} (h : wrong d ≠ 0) (hn : d.commands.length ≤ 9223372036854775807) : G.format_Size d = some 0 := by
  unfold G.format_Size
  rw [check_p d hn]
  simp only [Option.bind_some]
  rw [if_pos h]
theorem Size_p {d : G.Delta} (h : GoodD d) (hw : wrong d = 0) (hn : d.commands.length < 4294967296) (hs : (enc d).length ≤ 140737488355328) : G.format_Size d = some ((enc d).length : Int) := by
  unfold G.format_Size
  have hl : (enc d).length = 89 + (d.commands.flatMap encC).length := by unfold enc; rw [List.length_append, encH_len]
  rw [check_p d (by omega), hw]
  simp only [Option.bind_some]
  rw [if_neg (by simp)]
  refine Iter_count d.commands.length (fun k => (((89 + ((d.commands.take k).flatMap encC).length : Nat) : Int), (k : Int))) _ (fun k hk => ?_) ?_ (by simp)
  · have hfl := flat_le d.commands encC k hk
    unfold G.format_Size_l1
    dsimp only
    rw [if_pos (by omega), idx_of hk, flat_succ _ _ _ hk, inc64 hk (by omega)]
    simp only [Option.bind_some]
    have g := h.all _ (List.getElem_mem hk)
    generalize d.commands[k] = c at *
    by_cases h1 : c.kind = 1
    · have hcl : (encC c).length = 25 := by unfold encC; rw [if_pos h1]; simp [be_len]
      have hz : c.data.length = 0 := by obtain ⟨_, _, _, _, _, _, e⟩ := g.copy h1; rw [e]; rfl
      rw [if_pos h1, w64 (x := 17 + (c.data.length : Int)) (by omega) (by omega), w64 (x := _ + (17 + (c.data.length : Int))) (by omega) (by omega), w64 (by omega) (by omega), List.length_append, hcl, hz]
      congr 3
    · have hcl : (encC c).length = 17 + c.data.length := by unfold encC; rw [if_neg h1]; simp [be_len]; omega
      rw [if_neg h1, w64 (x := 17 + (c.data.length : Int)) (by omega) (by omega), w64 (by omega) (by omega), List.length_append, hcl]
      congr 3; omega
  · unfold G.format_Size_l1
    rw [if_neg (by simp)]
    simp [enc, encH_len]
theorem Equal_self (l : List UInt8) (h : l.length ≤ 9223372036854775807) : G.slices_Equal_byte_byte l l = some true := by
  unfold G.slices_Equal_byte_byte
  rw [if_neg (by simp)]
  refine Iter_count l.length (fun k => (k : Int)) _ (fun k hk => ?_) ?_ rfl
  · unfold G.slices_Equal_byte_byte_l1
    rw [if_pos (by omega), idx_of hk]
    simp only [Option.bind_some]
    rw [if_neg (by simp), inc64 hk h]
  · unfold G.slices_Equal_byte_byte_l1
    rw [if_neg (by omega)]
theorem Same4_self (c : G.Command) : G.graftref04_Same c c = some true := by unfold G.graftref04_Same; simp
theorem All_self (l : List G.Command) (h : l.length ≤ 9223372036854775807) : G.graftref04_All l l = some true := by
  unfold G.graftref04_All
  rw [if_neg (by simp)]
  refine Iter_count l.length (fun k => (k : Int)) _ (fun k hk => ?_) ?_ rfl
  · unfold G.graftref04_All_l1
    rw [if_pos (by omega), idx_of hk]
    simp only [Option.bind_some]
    rw [Same4_self]
    simp only [Option.bind_some]
    rw [if_neg (by simp), inc64 hk h]
  · unfold G.graftref04_All_l1
    rw [if_neg (by omega)]
theorem hashEq_of {f g : Nat → UInt8} (h : ∀ i, i < 32 → f i = g i) : hashEq f g = true := by
  unfold hashEq; rw [List.all_eq_true]; intro i hi; simp only [List.mem_range] at hi; simp [h i hi]
theorem Same5_of {a b : G.Delta} (h1 : a.oldLen = b.oldLen) (h2 : a.newLen = b.newLen) (h3 : ∀ i, i < 32 → a.oldHash i = b.oldHash i) (h4 : ∀ i, i < 32 → a.newHash i = b.newHash i) (h5 : a.commands = b.commands) (hn : b.commands.length ≤ 9223372036854775807) : G.graftref05_Same a b = some true := by
  unfold G.graftref05_Same
  rw [if_pos h1, if_pos h2, if_pos (hashEq_of h3), if_pos (hashEq_of h4), h5, All_self _ hn]; rfl
theorem Same5_self (a : G.Delta) (hn : a.commands.length ≤ 9223372036854775807) : G.graftref05_Same a a = some true := Same5_of rfl rfl (fun _ _ => rfl) (fun _ _ => rfl) rfl hn
/-- Few commands with few bytes. -/
def few (d : G.Delta) : Bool := d.commands.all (fun c => decide (c.data.length ≤ 300)) && decide (d.commands.length ≤ 40)
theorem Few_of (d : G.Delta) (hn : d.commands.length ≤ 9223372036854775807) : G.graftref05_Few d = some (few d) := by
  unfold G.graftref05_Few few
  have hK := Iter_each (f := G.graftref05_Few_l1 d) d.commands (fun c => !decide (c.data.length ≤ 300)) (fun k => (k : Int)) (fun _ => .inr false) (.inl ()) (fun k h hb => ?_) (fun k h hb => ?_) ?_ (s := 0) rfl
  · rcases hK with ⟨ha, he⟩ | ⟨k, h, hb, _, he⟩
    · have : d.commands.all (fun c => decide (c.data.length ≤ 300)) = true := by rw [List.all_eq_true]; intro x hx; simpa using ha x hx
      rw [he, this]
      simp only [Option.bind_some, joinK_inl, Bool.true_and]
      congr 1; rw [decide_eq_decide]; omega
    · have : d.commands.all (fun c => decide (c.data.length ≤ 300)) = false := by rw [List.all_eq_false]; exact ⟨_, List.getElem_mem h, by simpa using hb⟩
      rw [he, this]; rfl
  · unfold G.graftref05_Few_l1
    rw [if_pos (by omega), idx_of h]
    simp only [Option.bind_some]
    simp at hb
    rw [if_neg (by omega), inc64 h hn]
  · unfold G.graftref05_Few_l1
    rw [if_pos (by omega), idx_of h]
    simp only [Option.bind_some]
    simp at hb
    rw [if_pos (by omega)]
  · unfold G.graftref05_Few_l1; rw [if_neg (by omega)]
theorem few_enc {d : G.Delta} (h : few d = true) : d.commands.length ≤ 40 ∧ (enc d).length ≤ 100000 := by
  unfold few at h
  simp only [Bool.and_eq_true, decide_eq_true_eq] at h
  refine ⟨h.2, ?_⟩
  have key : ∀ l : List G.Command, l.all (fun c => decide (c.data.length ≤ 300)) = true → (l.flatMap encC).length ≤ l.length * 400 := by
    intro l
    induction l with
    | nil => intro _; simp
    | cons c l ih =>
      intro hl
      rw [List.all_cons] at hl
      simp only [Bool.and_eq_true, decide_eq_true_eq] at hl
      have := ih hl.2
      have hc : (encC c).length ≤ 400 := by unfold encC; split <;> simp [be_len] <;> omega
      rw [List.flatMap_cons, List.length_append, List.length_cons]; omega
  have := key _ h.1
  unfold enc; rw [List.length_append, encH_len]
  omega
end Go.Proofs.Ytkalbidbhaalmaa
