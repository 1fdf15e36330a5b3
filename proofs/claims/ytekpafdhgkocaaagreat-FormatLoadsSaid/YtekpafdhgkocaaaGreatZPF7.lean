/- Part of what the laws need: plain words, the walker and its laws, the program's functions. -/
import Derived.Test.YtekpafdhgkocaaaGreatZPF6
namespace Go.Proofs.YtekpafdhgkocaaaGreat
open G
namespace RS
def cmd (s : RS) : G.Command × RS :=
 if (s.uint 1).1 = 1 then
  (⟨1, (s.uint 1).2.length.1, (s.uint 1).2.length.2.length.1, (s.uint 1).2.length.2.length.2.length.1, []⟩, (s.uint 1).2.length.2.length.2.length.2)
 else if (s.uint 1).1 = 2 then
  (⟨2, (s.uint 1).2.length.1, 0, 0, ((s.uint 1).2.length.2.length.2.bytes (s.uint 1).2.length.2.length.1).1⟩, ((s.uint 1).2.length.2.length.2.bytes (s.uint 1).2.length.2.length.1).2)
 else (⟨0, 0, 0, 0, []⟩, (s.uint 1).2.fail 11 s.at_)
def j8 : Nat → RS → List G.Command → RS × List G.Command
 | 0, s, l => (s, l)
 | n + 1, s, l => if s.code = 0 then j8 n s.cmd.2 (l ++ [s.cmd.1]) else (s, l)
theorem Fit.cmd {s : RS} (h : s.Fit) : s.cmd.2.Fit := by
 unfold RS.cmd; split
 · exact (h.uint 1).length.length.length
 · split
   · exact (h.uint 1).length.length.bytes _
   · exact (h.uint 1).fail _ _
theorem Md (s : RS) : s.cmd.2.bs = s.bs := by
 unfold cmd; split
 · rw [js, js, js, l8]
 · split
   · rw [wL, js, js, l8]
   · rw [(gw _ _ _).1, l8]
theorem Cv (s : RS) : (s.uint 1).1 < 256 := by
 cases h : (s.take (size 1)).1 with
 | none => rw [kT s h]; exact (by decide : (0 : Nat) < 256)
 | some l =>
   rw [kU s h]
   have := Ar l
   have hl : l.length ≤ 1 := by
    unfold RS.take at h; split at h
    · cases h
    · split at h
      · cases h
      · split at h
        · cases h
        · cases h; simp [size]; omega
   have : 256 ^ l.length ≤ 256 ^ 1 := Nat.pow_le_pow_right (by omega) hl
   omega
theorem Dj (s : RS) : ko s.length.1 := by
 unfold RS.length; split
 · unfold ko; dsimp only; omega
 · unfold ko; dsimp only; omega
theorem Oe {s : RS} (h : s.Fit) : G.dB s.r = some (s.cmd.1, s.cmd.2.r) := by
 unfold G.dB G.dU
 have hu := Cv s
 simp only [Option.bind_some]
 rw [yf h (by unfold ko; omega)]
 simp only [Option.bind_some]
 rw [eK (by omega) (by omega)]
 have f1 := h.uint 1
 unfold RS.cmd
 by_cases h1 : (s.uint 1).1 = 1
 · rw [if_pos (by unfold qE; exact decide_eq_true (by omega)), if_pos h1]
   unfold G.fm
   simp only [lh f1, lh f1.length, lh f1.length.length, Option.bind_some]
 · rw [if_neg (by unfold qE; rw [decide_eq_true_eq]; omega), if_neg h1]
   by_cases h2 : (s.uint 1).1 = 2
   · rw [if_pos (by unfold qE; exact decide_eq_true (by omega)), if_pos h2]
     unfold G.fo
     simp only [lh f1, lh f1.length, D4 f1.length.length (Dj _), Option.bind_some]
   · rw [if_neg (by unfold qE; rw [decide_eq_true_eq]; omega), if_neg h2]
     simp only [C9, Option.bind_some]
     rfl
theorem kO {s : RS} {c p : Int} (hc : c ≠ 0) : (s.fail c p).code ≠ 0 := by
 unfold RS.fail; split
 · exact hc
 · rename_i h; exact fun k => h ⟨k, hc⟩
theorem I9 {s : RS} (h : s.code ≠ 0) (n : Int) : s.uint n = (0, s) := by unfold RS.uint; rw [jW s h]
theorem Di {s : RS} (h : s.code ≠ 0) : s.length = (0, s) := by unfold RS.length; rw [I9 h]; rfl
theorem Fg {s : RS} (h : s.code ≠ 0) (n : Int) : s.bytes n = ([], s) := by unfold RS.bytes; rw [jW s h]
theorem Od {s : RS} (h : s.Fit) : ∃ c, G.fw s.q = some (c, s.cmd.2.q) ∧ (s.cmd.2.code = 0 → c = s.cmd.1) := by
 unfold G.fw
 have hu := Cv s
 have f1 := h.uint 1
 simp only [AU h (n := 1) (by unfold ko; omega), Option.bind_some, eK (x := ((s.uint 1).1 : Int)) (by omega) (by omega)]
 unfold RS.cmd
 by_cases h1 : (s.uint 1).1 = 1
 · have e1 : ((s.uint 1).1 : Int) = 1 := by omega
   have e : ((if (s.uint 1).2.q.code = 0 then if (1 : Int) ≠ 1 then some ((1 : Int) != 2) else some false else some false) : Option Bool) = some false := by simp
   rw [if_pos h1]
   simp only [e1, e, Option.bind_some, if_true, Bool.false_eq_true, if_false, jO f1, jO f1.length, jO f1.length.length]
   exact ⟨_, rfl, fun _ => rfl⟩
 · by_cases h2 : (s.uint 1).1 = 2
   · have e1 : ((s.uint 1).1 : Int) = 2 := by omega
     have e : ((if (s.uint 1).2.q.code = 0 then if (2 : Int) ≠ 1 then some ((2 : Int) != 2) else some false else some false) : Option Bool) = some false := by simp
     rw [if_neg h1, if_pos h2]
     simp only [e1, e, Option.bind_some, if_true, Bool.false_eq_true, if_false, jO f1, jO f1.length, vX f1.length.length, show ¬ (2 : Int) = 1 by decide]
     exact ⟨_, rfl, fun _ => rfl⟩
   · have n1 : ¬ ((s.uint 1).1 : Int) = 1 := by omega
     have n2 : (((s.uint 1).1 : Int) != 2) = true := by simp; omega
     have hb : ((s.uint 1).2.fail 11 s.at_).code ≠ 0 := kO (by decide)
     have e : (((if (s.uint 1).2.q.code = 0 then if ((s.uint 1).1 : Int) ≠ 1 then some (((s.uint 1).1 : Int) != 2) else some false else some false) : Option Bool).bind fun v1 => if v1 = true then (G.ba 11 s.q.at_ (s.uint 1).2.q).bind fun y7 => some y7 else some (s.uint 1).2.q) = some ((s.uint 1).2.fail 11 s.at_).q := by
      by_cases hc : (s.uint 1).2.code = 0
      · rw [if_pos (show (s.uint 1).2.q.code = 0 from hc), if_pos n1, n2]
        simp only [Option.bind_some, if_true, mj]; rfl
      · rw [if_neg (show ¬ (s.uint 1).2.q.code = 0 from hc), w8 _ hc]; rfl
     rw [← Option.bind_assoc, e]
     have f2 : ((s.uint 1).2.fail 11 s.at_).Fit := f1.fail _ _
     simp only [Option.bind_some, jO f2, Di hb, n1, h1, h2, if_false, vX f2, Fg hb]
     exact ⟨_, rfl, fun k => absurd k hb⟩
theorem ER (s : RS) (n : Int) : s.at_ ≤ (s.take n).2.at_ := by
 unfold RS.take; split
 · exact Nat.le_refl _
 · split
   · rw [(gw _ _ _).2]; exact Nat.le_refl _
   · split
     · rw [(gw _ _ _).2]; exact Nat.le_refl _
     · dsimp only; omega
theorem EV (s : RS) (n : Int) : s.at_ ≤ (s.uint n).2.at_ := by rw [tw]; exact ER s _
theorem mO (s : RS) : s.at_ ≤ s.length.2.at_ := by
 unfold RS.length; split
 · rw [(gw _ _ _).2]; exact EV s 8
 · exact EV s 8
theorem G1 (s : RS) (n : Int) : s.at_ ≤ (s.bytes n).2.at_ := by rw [po]; exact ER s _
theorem zM {s : RS} {n : Int} (h : (s.take n).2.code = 0) : s.code = 0 ∧ 0 ≤ n ∧ (s.at_ : Int) + n ≤ s.bs.length ∧ s.take n = (some ((s.bs.drop s.at_).take n.toNat), { s with at_ := s.at_ + n.toNat }) := by
 by_cases hc : s.code = 0
 · by_cases hn : n < 0
   · rw [tv s hc n hn] at h; exact absurd h (kO (by decide))
   · by_cases hs : (s.bs.length : Int) - s.at_ < n
     · rw [lx s hc n (by omega) hs] at h; exact absurd h (kO (by decide))
     · refine ⟨hc, by omega, by omega, ?_⟩
       unfold RS.take; rw [if_neg (by simp [hc]), if_neg hn, if_neg hs]
 · rw [jW s hc] at h; exact absurd h hc
theorem u7 {s : RS} {n : Int} (h1 : 1 ≤ n) (h8 : n ≤ 8) (h : (s.uint n).2.code = 0) : s.code = 0 ∧ (s.at_ : Int) + n ≤ s.bs.length ∧ s.uint n = (num ((s.bs.drop s.at_).take n.toNat), { s with at_ := s.at_ + n.toNat }) := by
 have hz : size n = n := by unfold size; rw [if_neg (by omega)]
 rw [tw, hz] at h
 obtain ⟨a, b, c, d⟩ := zM h
 refine ⟨a, c, ?_⟩
 rw [kU s (l := (s.bs.drop s.at_).take n.toNat) (by rw [hz, d]), hz, d]
theorem jN {s : RS} (h : s.length.2.code = 0) : s.code = 0 ∧ s.at_ + 8 ≤ s.bs.length ∧ num ((s.bs.drop s.at_).take 8) ≤ 4611686018427387903 ∧ s.length = ((num ((s.bs.drop s.at_).take 8) : Int), { s with at_ := s.at_ + 8 }) := by
 unfold RS.length at h ⊢
 split at h
 · exact absurd h (kO (by decide))
 · rename_i hc
   obtain ⟨a, b, c⟩ := u7 (by decide) (by decide) h
   rw [if_neg hc, c]
   rw [c] at hc
   exact ⟨a, by omega, Nat.not_lt.mp hc, rfl⟩
theorem qP {s : RS} {n : Int} (h : (s.bytes n).2.code = 0) : s.code = 0 ∧ 0 ≤ n ∧ (s.at_ : Int) + n ≤ s.bs.length ∧ s.bytes n = ((s.bs.drop s.at_).take n.toNat, { s with at_ := s.at_ + n.toNat }) := by
 rw [po] at h
 obtain ⟨a, b, c, d⟩ := zM h
 exact ⟨a, b, c, by unfold RS.bytes; rw [d]⟩
theorem G5 {s : RS} (h : s.cmd.2.code = 0) : s.at_ + 1 ≤ s.cmd.2.at_ := by
 have key : (s.uint 1).2.code = 0 → s.at_ + 1 ≤ (s.uint 1).2.at_ := fun k => by
  obtain ⟨_, _, e⟩ := u7 (by decide) (by decide) k
  rw [e]; exact Nat.le_refl _
 unfold RS.cmd at h ⊢
 split at h
 · rename_i h1
   rw [if_pos h1]
   have := key (jN (jN (jN h).1).1).1
   have a := mO (s.uint 1).2
   have b := mO (s.uint 1).2.length.2
   have c := mO (s.uint 1).2.length.2.length.2
   dsimp only; omega
 · split at h
   · rename_i h1 h2
     rw [if_neg h1, if_pos h2]
     have := key (jN (jN (qP h).1).1).1
     have a := mO (s.uint 1).2
     have b := mO (s.uint 1).2.length.2
     have c := G1 (s.uint 1).2.length.2.length.2 (s.uint 1).2.length.2.length.1
     dsimp only; omega
   · exact absurd h (kO (by decide))
end RS
def jY : G.Delta := ⟨0, 0, fun _ => 0, fun _ => 0, []⟩
def Ev : List UInt8 := [71, 82, 70, 84]
def hash (l : List UInt8) : Nat → UInt8 := G9 32 (fun _ => 0) l
theorem BT : ([u8 71, u8 82, u8 70, u8 84] : List UInt8) = Ev := by kernel_rfl
namespace cG
def s0 (b : List UInt8) : RS := ⟨b, 0, 0, 0⟩
def s1 (b : List UInt8) : RS := ((s0 b).expect Ev 9).2
def s2 (b : List UInt8) : RS := if ((s1 b).uint 1).1 ≠ 1 then ((s1 b).uint 1).2.fail 10 4 else ((s1 b).uint 1).2
def s3 (b : List UInt8) : RS := (s2 b).length.2
def s4 (b : List UInt8) : RS := (s3 b).length.2
def s5 (b : List UInt8) : RS := ((s4 b).bytes 32).2
def s6 (b : List UInt8) : RS := ((s5 b).bytes 32).2
def s7 (b : List UInt8) : RS := ((s6 b).uint 4).2
def s8 (b : List UInt8) : RS × List G.Command := RS.j8 ((s6 b).uint 4).1 (s7 b) []
def s9 (b : List UInt8) : RS := if (s8 b).1.at_ < b.length then (s8 b).1.fail 12 (s8 b).1.at_ else (s8 b).1
def d (b : List UInt8) : G.Delta := ⟨(s2 b).length.1, (s3 b).length.1, hash ((s4 b).bytes 32).1, hash ((s5 b).bytes 32).1, (s8 b).2⟩
end cG
def dec (b : List UInt8) : G.Delta × Int × Int := if (cG.s9 b).code ≠ 0 then (jY, (cG.s9 b).code, (cG.s9 b).pos) else (cG.d b, 0, 0)
namespace RS
theorem Fit.j8 : ∀ {n : Nat} {s : RS} {l : List G.Command}, s.Fit → (RS.j8 n s l).1.Fit
 | 0, _, _, h => h
 | n + 1, s, l, h => by
   unfold RS.j8; split
   · exact h.cmd.j8
   · exact h
theorem D5 : ∀ (n : Nat) (s : RS) (l : List G.Command), (RS.j8 n s l).1.bs = s.bs
 | 0, _, _ => rfl
 | n + 1, s, l => by
   unfold RS.j8; split
   · rw [D5 n, Md]
   · rfl
theorem ye (s : RS) : (s.uint 4).1 < 4294967296 := by
 cases h : (s.take (size 4)).1 with
 | none => rw [kT s h]; exact (by decide : (0 : Nat) < 4294967296)
 | some l =>
   rw [kU s h]
   have := Ar l
   have hl : l.length ≤ 4 := by
    unfold RS.take at h; split at h
    · cases h
    · split at h
      · cases h
      · split at h
        · cases h
        · cases h; simp [size]; omega
   have : 256 ^ l.length ≤ 256 ^ 4 := Nat.pow_le_pow_right (by omega) hl
   omega
theorem MH {s : RS} (h : s.Fit) : G.eu s.r = some (decide (s.code = 0)) := by
 unfold G.eu G.ga
 have := h.2.2
 by_cases hc : s.code = 0
 · simp [r, p, hc, this hc]
 · simp [r, p, hc]
theorem G7 (c1 c2 : Int) (c3 c4 : Nat → UInt8) (c5 : List G.Command) (o w : Int) (h1' h2' : Nat → UInt8) : ∀ (n : Nat) (s : RS) (l : List G.Command), s.Fit → n < 4294967296 → (s.code = 0 → l.length ≤ s.at_) → Iter G.eX ((n : Int), c1, c2, c3, c4, c5, s.r, o, w, h1', h2', l) = some (c1, c2, c3, c4, c5, (j8 n s l).1.r, o, w, h1', h2', (j8 n s l).2)
 | 0, s, l, h, _, _ => by
   apply cH
   unfold G.eX
   rw [if_neg (by dsimp only; omega)]; rfl
 | n + 1, s, l, h, hn, hl => by
   by_cases hc : s.code = 0
   · have hl' := hl hc
     have h1 := h.1; have h2 := h.2.1
     have := G7 c1 c2 c3 c4 c5 o w h1' h2' n s.cmd.2 (l ++ [s.cmd.1]) h.cmd (by omega) (fun k => by have := G5 k; simp; omega)
     unfold RS.j8; rw [if_pos hc, ← this]
     apply dK
     unfold G.eX
     dsimp only
     rw [if_pos (by omega), MH h]
     simp only [Option.bind_some, hc, decide_true, if_true]
     rw [Oe h]
     simp only [Option.bind_some]
     rw [eF (by simp; omega)]
     simp only [Option.bind_some]
     rw [qz (by omega) (by omega)]
     have : (((n + 1 : Nat) : Int) - 1) = (n : Int) := by omega
     rw [this]
   · unfold RS.j8; rw [if_neg hc]
     apply cH
     unfold G.eX
     dsimp only
     rw [if_pos (by omega), MH h]
     simp [hc]
theorem G6 (c1 c2 : Int) (c3 c4 : Nat → UInt8) (c5 : List G.Command) (o w : Int) (h1' h2' : Nat → UInt8) (u : RS) : ∀ (n : Nat) (s : RS) (l : List G.Command) (N i : Nat), s.Fit → N = i + n → N < 4294967296 → (s.code = 0 → l.length ≤ s.at_) → ∃ l', Iter (G.bW ((N : Int), u.q)) ((i : Int), c1, c2, c3, c4, c5, s.q, o, w, h1', h2', l) = some (c1, c2, c3, c4, c5, (j8 n s l).1.q, o, w, h1', h2', l') ∧ ((j8 n s l).1.code = 0 → l' = (j8 n s l).2)
 | 0, s, l, N, i, h, hN, hn, _ => by
   refine ⟨l, cH ?_, fun _ => rfl⟩
   unfold G.bW
   dsimp only
   rw [eK (by omega) (by omega), if_neg (by omega)]; rfl
 | n + 1, s, l, N, i, h, hN, hn, hl => by
   by_cases hc : s.code = 0
   · have hl' := hl hc
     have h1 := h.1; have h2 := h.2.1
     obtain ⟨c, hq, hcc⟩ := Od h
     have hstep : G.bW ((N : Int), u.q) ((i : Int), c1, c2, c3, c4, c5, s.q, o, w, h1', h2', l) = some (.inl (((i + 1 : Nat) : Int), c1, c2, c3, c4, c5, s.cmd.2.q, o, w, h1', h2', l ++ [c])) := by
      unfold G.bW
      dsimp only
      rw [eK (by omega) (by omega), if_pos (by omega), show (s.q.code == 0) = true by simp [q, hc]]
      simp only [Option.bind_some, if_true, hq]
      rw [eF (by simp; omega), ea (n := N) (by omega) (by omega)]
      rfl
     rw [dK hstep]
     unfold RS.j8; rw [if_pos hc]
     by_cases hk : s.cmd.2.code = 0
     · rw [hcc hk]
       exact G6 c1 c2 c3 c4 c5 o w h1' h2' u n s.cmd.2 (l ++ [s.cmd.1]) N (i + 1) h.cmd (by omega) hn (fun k => by have := G5 k; simp; omega)
     · have e : ∀ l', RS.j8 n s.cmd.2 l' = (s.cmd.2, l') := fun l' => by
        cases n with
        | zero => rfl
        | succ n => unfold RS.j8; rw [if_neg hk]
       rw [e]
       refine ⟨l ++ [c], cH ?_, fun k => absurd k hk⟩
       unfold G.bW
       dsimp only
       rw [show (s.cmd.2.q.code == 0) = false by simpa [q] using hk]
       split <;> rfl
   · unfold RS.j8; rw [if_neg hc]
     refine ⟨l, cH ?_, fun _ => rfl⟩
     unfold G.bW
     dsimp only
     rw [show (s.q.code == 0) = false by simpa [q] using hc]
     split <;> rfl
end RS
open RS
theorem AH {b : List UInt8} (h : b.length ≤ 1099511627776) : (cG.s0 b).Fit := ⟨Nat.zero_le _, h, fun _ => rfl⟩
namespace cG
variable {b : List UInt8}
theorem f1 (h : b.length ≤ 1099511627776) : (s1 b).Fit := (AH h).expect _ _
theorem f2 (h : b.length ≤ 1099511627776) : (s2 b).Fit := by
 unfold s2; split
 · exact ((f1 h).uint 1).fail _ _
 · exact (f1 h).uint 1
theorem f3 (h : b.length ≤ 1099511627776) : (s3 b).Fit := (f2 h).length
theorem f4 (h : b.length ≤ 1099511627776) : (s4 b).Fit := (f3 h).length
theorem f5 (h : b.length ≤ 1099511627776) : (s5 b).Fit := (f4 h).bytes 32
theorem f6 (h : b.length ≤ 1099511627776) : (s6 b).Fit := (f5 h).bytes 32
theorem f7 (h : b.length ≤ 1099511627776) : (s7 b).Fit := (f6 h).uint 4
theorem f8 (h : b.length ≤ 1099511627776) : (s8 b).1.Fit := (f7 h).j8
theorem f9 (h : b.length ≤ 1099511627776) : (s9 b).Fit := by
 unfold s9; split
 · exact (f8 h).fail _ _
 · exact f8 h
theorem b2 : (s2 b).bs = b := by
 unfold s2; split
 · rw [(gw _ _ _).1, l8]; exact yZ _ _ _
 · rw [l8]; exact yZ _ _ _
theorem b7 : (s7 b).bs = b := by
 unfold s7 s6 s5 s4 s3
 rw [l8, wL, wL, js, js, b2]
theorem b8 : (s8 b).1.bs = b := by unfold s8; rw [D5, b7]
theorem a1 : ((s0 b).expect [u8 71, u8 82, u8 70, u8 84] 9).2 = s1 b := by rw [BT]; rfl
theorem a3 : (s2 b).length.2 = s3 b := rfl
theorem a4 : (s3 b).length.2 = s4 b := rfl
theorem a5 : ((s4 b).bytes 32).2 = s5 b := rfl
theorem a6 : ((s5 b).bytes 32).2 = s6 b := rfl
theorem a7 : ((s6 b).uint 4).2 = s7 b := rfl
theorem a8 : RS.j8 ((s6 b).uint 4).1 (s7 b) [] = s8 b := rfl
theorem ar : (⟨⟨b, 0, ⟨0, 0⟩⟩⟩ : G.al) = (s0 b).r := rfl
theorem aq : (⟨b, 0, 0, 0⟩ : G.ae) = (s0 b).q := rfl
theorem ad : d b = (⟨(s2 b).length.1, (s3 b).length.1, hash ((s4 b).bytes 32).1, hash ((s5 b).bytes 32).1, (s8 b).2⟩ : G.Delta) := rfl
theorem a2 : s2 b = if ((s1 b).uint 1).1 ≠ 1 then ((s1 b).uint 1).2.fail 10 4 else ((s1 b).uint 1).2 := rfl
theorem a9 : s9 b = if (s8 b).1.at_ < b.length then (s8 b).1.fail 12 (s8 b).1.at_ else (s8 b).1 := rfl
attribute [irreducible] s1 s2 s3 s4 s5 s6 s7 s8 s9
end cG
theorem G8 (l : List UInt8) : Lo (fun _ => 0) (0 : Int).toNat (dr (l.length : Int) ((32 : Int) - (0 : Int))).toNat l = hash l := by
 funext i
 unfold Lo hash G9
 have e : (dr (l.length : Int) ((32 : Int) - (0 : Int))).toNat = min 32 l.length := by unfold dr; split <;> omega
 rw [e]
 by_cases h : i < 32 ∧ i < l.length
 · rw [if_pos h, if_pos ⟨Nat.zero_le _, by show i < 0 + _; omega⟩]; rfl
 · rw [if_neg h, if_neg fun k => h (by have : i < 0 + min 32 l.length := k.2; omega)]
theorem Hn {s : RS} (h : s.Fit) : G.dv s.r = some (hash (s.bytes 32).1, (s.bytes 32).2.r) := by
 unfold G.dv
 rw [bg (by omega), D4 h (by unfold ko; omega)]
 simp only [Option.bind_some]
 rw [G8]
theorem wx {b : List UInt8} (h : b.length ≤ 1099511627776) : G.fG b = some ((dec b).1, ⟨(dec b).2.1, (dec b).2.2⟩) := by
 unfold G.fG G.oZ
 rw [tG _ (by omega)]
 simp only [Option.bind_some]
 rw [cG.ar, Hh (AH h) _ _ (by decide)]
 simp only [Option.bind_some]
 rw [cG.a1, yf (cG.f1 h) (by unfold ko; omega)]
 simp only [Option.bind_some]
 have e2 : ((if (((cG.s1 b).uint 1).1 : Int) ≠ 1 then (G.cc 10 4 ((cG.s1 b).uint 1).2.r).bind fun y16 => some y16 else some ((cG.s1 b).uint 1).2.r) : Option G.al) = some (cG.s2 b).r := by
  rw [cG.a2]
  rw [C9]
  by_cases hv : ((cG.s1 b).uint 1).1 = 1
  · rw [if_neg (by omega), if_neg (by omega)]
  · rw [if_pos (by omega), if_pos (by omega)]; rfl
 rw [e2]
 simp only [Option.bind_some]
 show (G.bm (cG.s2 b).r).bind _ = _
 rw [lh (cG.f2 h)]
 simp only [Option.bind_some]
 rw [cG.a3, lh (cG.f3 h)]
 simp only [Option.bind_some]
 rw [cG.a4, Hn (cG.f4 h)]
 simp only [Option.bind_some]
 rw [cG.a5, Hn (cG.f5 h)]
 simp only [Option.bind_some]
 rw [cG.a6, yf (cG.f6 h) (by unfold ko; omega)]
 simp only [Option.bind_some]
 rw [cG.a7, G7 _ _ _ _ _ _ _ _ _ _ _ _ (cG.f7 h) (ye _) (fun _ => Nat.zero_le _)]
 simp only [Option.bind_some]
 rw [cG.a8]
 have g8 := (cG.f8 h).1
 have g8' := (cG.f8 h).2.1
 have e9 : ((G.fh (cG.s8 b).1.r).bind fun y9 => (if y9 > 0 then (G.dU (cG.s8 b).1.r).bind fun y12 => (G.cc 12 y12 (cG.s8 b).1.r).bind fun y13 => some y13 else some (cG.s8 b).1.r : Option G.al)) = some (cG.s9 b).r := by
  unfold G.fh G.dU; rw [cG.a9]
  simp only [Option.bind_some, C9, show (cG.s8 b).1.r.position.b = (cG.s8 b).1.bs from rfl, show (cG.s8 b).1.r.position.at_ = ((cG.s8 b).1.at_ : Int) from rfl]
  rw [eK (by omega) (by omega)]
  rw [cG.b8] at g8 ⊢
  by_cases hx : (cG.s8 b).1.at_ < b.length
  · rw [if_pos (by omega), if_pos hx]
  · rw [if_neg (by omega), if_neg hx]
 show (G.fh (cG.s8 b).1.r).bind (fun y9 => Option.bind (if y9 > 0 then (G.dU (cG.s8 b).1.r).bind fun y12 => (G.cc 12 y12 (cG.s8 b).1.r).bind fun y13 => some y13 else some (cG.s8 b).1.r : Option G.al) _) = _
 rw [← Option.bind_assoc, e9]
 simp only [Option.bind_some]
 rw [MH (cG.f9 h)]
 simp only [Option.bind_some]
 unfold dec
 by_cases hc : (cG.s9 b).code = 0
 · rw [if_neg (by simp [hc]), if_neg (by simp [hc])]; rfl
 · rw [if_pos (by simp [hc]), if_pos hc]; rfl
theorem Ho (n1 n2 : Int) (l' : List G.Command) (x4 x5 : List UInt8) (n4 : x4.length = 32) (n5 : x5.length = 32) (y5 y6 : G.ae) : Iter (G.ey (x4, y5) (x5, y6)) ((0 : Int), n1, n2, (fun _ => 0), (fun _ => 0), l') = some (n1, n2, hash x4, hash x5, l') := by
 have hh : ∀ x : List UInt8, x.length = 32 → hash x = fun i => if i < 32 then x.getD i 0 else 0 := by
  intro x hx; funext i; unfold hash G9; rw [hx]
  by_cases hi : i < 32 <;> simp [hi]
 rw [hh x4 n4, hh x5 n5]
 refine bA 32 (fun j => ((j : Int), n1, n2, (fun i => if i < j then x4.getD i 0 else 0), (fun i => if i < j then x5.getD i 0 else 0), l')) _ (fun j hj => ?_) ?_ (by simp)
 · unfold G.ey
   dsimp only
   rw [if_pos (by omega), dh (by omega), dh (by omega)]
   simp only [Option.bind_some]
   rw [bg (by omega)]
   simp only [Option.bind_some]
   rw [ea hj (by omega)]
   have hs : ∀ x : List UInt8, (hx : j < x.length) → ah (fun i => if i < j then x.getD i 0 else 0) (j : Int) x[j] = fun i => if i < j + 1 then x.getD i 0 else 0 := by
    intro x hx; funext i; unfold ah
    by_cases hij : i = j
    · subst hij; rw [if_pos rfl, if_pos (by omega), sF _ _ _ hx]
    · rw [if_neg (by omega)]
      dsimp only
      by_cases hlt : i < j
      · rw [if_pos hlt, if_pos (by omega)]
      · rw [if_neg hlt, if_neg (by omega)]
   rw [hs x4 (by omega), hs x5 (by omega)]
 · unfold G.ey
   rw [if_neg (by simp)]
theorem Gx {b : List UInt8} (h : b.length ≤ 1099511627776) : G.fT b = some (dec b) := by
 unfold G.fT
 rw [cG.aq, Hg (AH h) _ _ (by decide)]
 simp only [Option.bind_some]
 rw [cG.a1, AU (cG.f1 h) (by unfold ko; omega)]
 simp only [Option.bind_some]
 have e2 : (((if ((cG.s1 b).uint 1).2.q.code = 0 then some ((((cG.s1 b).uint 1).1 : Int) != 1) else some false) : Option Bool).bind fun v1 => (if v1 = true then (G.ba 10 4 ((cG.s1 b).uint 1).2.q).bind fun y12 => some y12 else some ((cG.s1 b).uint 1).2.q : Option G.ae)) = some (cG.s2 b).q := by
  rw [cG.a2]
  rw [mj]
  by_cases hc : ((cG.s1 b).uint 1).2.code = 0
  · rw [if_pos (show ((cG.s1 b).uint 1).2.q.code = 0 from hc)]
    by_cases hv : ((cG.s1 b).uint 1).1 = 1
    · rw [hv]; rfl
    · rw [if_pos hv, show ((((cG.s1 b).uint 1).1 : Int) != 1) = true by simp; omega]; rfl
  · rw [if_neg (show ¬ ((cG.s1 b).uint 1).2.q.code = 0 from hc), w8 _ hc]; simp
 rw [← Option.bind_assoc, e2]
 simp only [Option.bind_some]
 rw [jO (cG.f2 h)]
 simp only [Option.bind_some]
 rw [cG.a3, jO (cG.f3 h)]
 simp only [Option.bind_some]
 rw [cG.a4, vX (cG.f4 h)]
 simp only [Option.bind_some]
 rw [cG.a5, vX (cG.f5 h)]
 simp only [Option.bind_some]
 rw [cG.a6, AU (cG.f6 h) (by unfold ko; omega)]
 simp only [Option.bind_some]
 rw [cG.a7]
 obtain ⟨l', hl, hl'⟩ := G6 0 0 (fun _ => 0) (fun _ => 0) [] (cG.s2 b).length.1 (cG.s3 b).length.1 (fun _ => 0) (fun _ => 0) (cG.s7 b) _ (cG.s7 b) [] ((cG.s6 b).uint 4).1 0 (cG.f7 h) (Nat.zero_add _).symm (ye _) (fun _ => Nat.zero_le _)
 rw [cG.a8] at hl hl'
 rw [show ((0 : Nat) : Int) = 0 from rfl] at hl
 rw [hl]
 simp only [Option.bind_some]
 have e9 : (((if (cG.s8 b).1.q.code = 0 then some (decide ((cG.s8 b).1.q.at_ < (b.length : Int))) else some false) : Option Bool).bind fun v4 => (if v4 = true then (G.ba 12 (cG.s8 b).1.q.at_ (cG.s8 b).1.q).bind fun y10 => some y10 else some (cG.s8 b).1.q : Option G.ae)) = some (cG.s9 b).q := by
  rw [cG.a9]
  rw [mj]
  simp only [show (cG.s8 b).1.q.at_ = ((cG.s8 b).1.at_ : Int) from rfl, show (cG.s8 b).1.q.code = (cG.s8 b).1.code from rfl]
  by_cases hc : (cG.s8 b).1.code = 0
  · rw [if_pos hc]
    by_cases hx : (cG.s8 b).1.at_ < b.length
    · rw [if_pos hx, decide_eq_true (by omega)]; rfl
    · rw [if_neg hx, decide_eq_false (by omega)]; rfl
  · rw [if_neg hc, w8 _ hc]; simp
 rw [← Option.bind_assoc, e9]
 simp only [Option.bind_some]
 unfold dec
 by_cases hc : (cG.s9 b).code = 0
 · have h9 := hc
   have h8 : (cG.s8 b).1.code = 0 := by
    rw [cG.a9] at hc; split at hc
    · exact absurd hc (kO (by decide))
    · exact hc
   have h7 : ∀ n s l, (RS.j8 n s l).1.code = 0 → s.code = 0 := by
    intro n s l hk
    cases n with
    | zero => exact hk
    | succ n =>
      unfold RS.j8 at hk; split at hk
      · assumption
      · exact hk
   have h8' := h8
   rw [← cG.a8] at h8'
   have h7' := h7 _ _ _ h8'
   rw [← cG.a7] at h7'
   obtain ⟨g6, _, _⟩ := u7 (by decide) (by decide) h7'
   rw [← cG.a6] at g6
   obtain ⟨g5, _, k5, e5⟩ := qP g6
   rw [← cG.a5] at g5
   obtain ⟨g4, _, k4, e4⟩ := qP g5
   have n4 : ((cG.s4 b).bytes 32).1.length = 32 := by rw [e4]; simp; omega
   have n5 : ((cG.s5 b).bytes 32).1.length = 32 := by rw [e5]; simp; omega
   rw [if_neg (by simpa [q] using hc), if_neg (by simpa using hc)]
   have e5' := Ho (cG.s2 b).length.1 (cG.s3 b).length.1 l' _ _ n4 n5 ((cG.s4 b).bytes 32).2.q ((cG.s5 b).bytes 32).2.q
   rw [cG.a5, cG.a6] at e5'
   rw [e5', hl' h8, cG.ad]; rfl
 · rw [if_pos (show (cG.s9 b).q.code ≠ 0 from hc), if_pos hc]; rfl
end Go.Proofs.YtekpafdhgkocaaaGreat
