/- Part of what the laws need: plain words, the walker and its laws, the program's functions. -/
import Derived.Test.YtekpafdhgkocaaaGreatZPWire
import Derived.Test.YtekpafdhgkocaaaGreatZPH2
namespace Go.Proofs.YtekpafdhgkocaaaGreat
open G
namespace RS
def p (s : RS) : G.b6 := ⟨s.bs, s.at_, ⟨s.code, s.pos⟩⟩
def r (s : RS) : G.al := ⟨s.p⟩
def q (s : RS) : G.ae := ⟨s.bs, s.at_, s.code, s.pos⟩
def Fit (s : RS) : Prop := s.at_ ≤ s.bs.length ∧ s.bs.length ≤ 1099511627776 ∧ (s.code = 0 → s.pos = 0)
theorem Fit.ok {s : RS} (h : s.Fit) : s.Ok := h.1
theorem Fit.fail {s : RS} (h : s.Fit) (c p : Int) : (s.fail c p).Fit := by
 unfold Fit; rw [(gw s c p).1, (gw s c p).2]; refine ⟨h.1, h.2.1, ?_⟩
 unfold RS.fail; split
 · rename_i k; exact fun k' => absurd k' k.2
 · exact h.2.2
theorem Fit.take {s : RS} (h : s.Fit) (n : Int) : (s.take n).2.Fit := by
 refine ⟨ja s h.1 n, by rw [wq]; exact h.2.1, ?_⟩
 unfold RS.take; split
 · exact h.2.2
 · split
   · exact (h.fail _ _).2.2
   · split
     · exact (h.fail _ _).2.2
     · exact h.2.2
theorem Fit.uint {s : RS} (h : s.Fit) (n : Int) : (s.uint n).2.Fit := by rw [tw]; exact h.take _
theorem Fit.bytes {s : RS} (h : s.Fit) (n : Int) : (s.bytes n).2.Fit := by rw [po]; exact h.take _
theorem Fit.length {s : RS} (h : s.Fit) : s.length.2.Fit := by
 unfold RS.length; split
 · exact (h.uint 8).fail _ _
 · exact h.uint 8
theorem Fit.expect {s : RS} (h : s.Fit) (b : List UInt8) (c : Int) : (s.expect b c).2.Fit := by
 unfold RS.expect; split
 · exact h
 · split
   · exact h.fail _ _
   · exact h.take _
theorem w9 (s : RS) (c n : Int) : G.bZ c n s.r = some (s.fail c n).r := by
 unfold G.bZ RS.fail r p
 by_cases h : s.code = 0 <;> by_cases h2 : c = 0 <;> simp [h, h2]
theorem mj (s : RS) (c n : Int) : G.ba c n s.q = some (s.fail c n).q := by
 unfold G.ba RS.fail q
 by_cases h : s.code = 0 <;> by_cases h2 : c = 0 <;> simp [h, h2]
theorem DP {s : RS} (h : s.Fit) {n : Int} (hn : ko n) : G.c7 n s.r = some ((s.take n).1.getD [], (s.take n).1.isSome, (s.take n).2.r) := by
 unfold ko at hn
 obtain ⟨h1, h2, h3⟩ := h
 unfold G.c7
 by_cases hc : s.code = 0
 · have hc' : ¬ s.r.position.fault.code ≠ 0 := by simp [r, p, hc]
   rw [if_neg hc']
   by_cases hneg : n < 0
   · rw [if_pos hneg, w9, tv s hc n hneg]; rfl
   · rw [if_neg hneg]
     have e : IntKind.i64.wrap ((s.r.position.b.length : Int) - s.r.position.at_) = (s.bs.length : Int) - s.at_ := by
      simp only [r, p]; rw [eK (by omega) (by omega)]
     rw [e]
     by_cases hs : n > (s.bs.length : Int) - s.at_
     · rw [if_pos hs, lx s hc n (by omega) (by omega)]
       have : (s.r.position.b.length : Int) = s.bs.length := rfl
       rw [this, w9]; rfl
     · rw [if_neg hs]
       obtain ⟨k, rfl⟩ : ∃ k : Nat, n = (k : Int) := ⟨n.toNat, by omega⟩
       rw [jx s hc k (by omega)]
       have e2 : IntKind.i64.wrap (s.r.position.at_ + (k : Int)) = ((s.at_ + k : Nat) : Int) := by simp only [r, p]; rw [eK (by omega) (by omega)]; omega
       have e3 : IntKind.i64.wrap (((s.at_ + k : Nat) : Int) - (k : Int)) = (s.at_ : Int) := by rw [eK (by omega) (by omega)]; omega
       rw [e2, e3, pL (by simp only [r, p]; omega)]
       simp only [r, p, Option.bind_some, Int.toNat_natCast, Option.getD_some, Option.isSome_some, List.drop_take, Nat.add_sub_cancel_left]
 · have hc' : s.r.position.fault.code ≠ 0 := hc
   rw [if_pos hc', jW s hc]; rfl
theorem yI {s : RS} (n : Int) : ((s.take n).1.getD []).length ≤ s.bs.length := by
 cases h : (s.take n).1 with
 | none => simp
 | some l => exact AR s h
theorem Qy (x : Nat) (c : UInt8) (h : x < 72057594037927936) : tK .u64 (iC .u64 (x : Int) 8) (c.toNat : Int) = ((256 * x + c.toNat : Nat) : Int) := by
 have hc := c.toNat_lt
 have e1 : iC .u64 (x : Int) 8 = ((x * 256 : Nat) : Int) := by
  unfold iC
  have : (2 : Int) ^ (min (8 : Int).toNat IntKind.u64.bits) = 256 := by decide
  rw [this, qz (by omega) (by omega)]; omega
 rw [e1]
 unfold tK
 have e2 : ∀ n : Nat, BitVec.ofInt 64 (n : Int) = BitVec.ofNat 64 n := fun n => by simp
 have e3 : x * 256 ||| c.toNat = 256 * x + c.toNat := by
  have := Nat.shiftLeft_add_eq_or_of_lt (i := 8) (b := c.toNat) (by omega) x
  rw [Nat.shiftLeft_eq, show (2 : Nat) ^ 8 = 256 from rfl] at this
  omega
 have e4 : (BitVec.ofInt 64 ((x * 256 : Nat) : Int) ||| BitVec.ofInt 64 (c.toNat : Int)).toNat = 256 * x + c.toNat := by
  rw [e2, e2, BitVec.toNat_or, BitVec.toNat_ofNat, BitVec.toNat_ofNat, Nat.mod_eq_of_lt (by omega), Nat.mod_eq_of_lt (by omega), e3]
 show IntKind.u64.wrap (((BitVec.ofInt 64 ((x * 256 : Nat) : Int) ||| BitVec.ofInt 64 (c.toNat : Int)).toNat : Nat) : Int) = _
 rw [e4]
 exact qz (by omega) (by omega)
theorem yf {s : RS} (h : s.Fit) {n : Int} (hn : ko n) : G.cD n s.r = some (((s.uint n).1 : Int), (s.uint n).2.r) := by
 unfold G.cD
 have e1 : ((if n < 1 then some true else some (decide (n > 8))) : Option Bool) = some (decide (n < 1 ∨ 8 < n)) := by
  by_cases h1 : n < 1 <;> simp [h1]
 have e2 : (((if n < 1 then some true else some (decide (n > 8))) : Option Bool).bind fun v1 => (if v1 = true then some (-1) else some n)) = some (size n) := by
  rw [e1]; unfold size; by_cases h1 : n < 1 ∨ 8 < n <;> simp [h1]
 rw [← Option.bind_assoc, e2]
 simp only [Option.bind_some]
 have hsz : ko (size n) := by unfold ko size at *; split <;> omega
 rw [DP h hsz]
 simp only [Option.bind_some]
 cases ht : (s.take (size n)).1 with
 | none => rw [kT s ht]; simp [r]
 | some l =>
   rw [kU s ht]
   simp only [Option.isSome_some, Option.getD_some, Bool.true_eq_false, if_false, G.o4, Option.bind_some]
   have hl8 := AQ s ht
   refine bA l.length (fun k => ((num (l.take k) : Int), (k : Int), (num (l.take k) : Int))) _ (fun k hk => ?_) ?_ (by simp [num])
   · unfold G.gN
     have h1 : ((k : Int)) < (l.length : Int) := by omega
     simp only [h1, if_true, dh hk, Option.bind_some, G.my]
     have hb := vm l k hk hl8
     rw [Qy _ _ hb, ea hk (by omega), mn l k hk, sF _ _ _ hk]
   · unfold G.gN
     simp [List.take_of_length_le, r]
theorem lh {s : RS} (h : s.Fit) : G.bm s.r = some (s.length.1, s.length.2.r) := by
 unfold G.bm
 rw [yf h (by unfold ko; omega)]
 simp only [Option.bind_some]
 unfold RS.length
 by_cases hc : 4611686018427387903 < (s.uint 8).1
 · rw [if_pos (by omega), if_pos hc]
   rw [w9]; rfl
 · rw [if_neg (by omega), if_neg hc, eK (by omega) (by omega)]
theorem D4 {s : RS} (h : s.Fit) {n : Int} (hn : ko n) : G.eD n s.r = some ((s.bytes n).1, (s.bytes n).2.r) := by
 unfold G.eD
 rw [DP h hn]
 have hl := yI (s := s) n
 simp only [Option.bind_some]
 have hb := h.2.1
 rw [tG _ (by omega)]
 simp only [Option.bind_some]
 cases ht : (s.take n).1 with
 | none => rw [m9 s ht]; rfl
 | some l => rw [wM s ht]; rfl
theorem hasPrefix (l b : List UInt8) (h : l.length ≤ b.length) : G.gV b l = some (decide (b.take l.length = l)) := by
 unfold G.gV G.nX
 rw [if_pos (by omega), lu (by omega)]; simp
theorem Hh {s : RS} (h : s.Fit) (b : List UInt8) (c : Int) (hb : b.length ≤ 1099511627776) : G.fB b c s.r = some ((s.expect b c).1, (s.expect b c).2.r) := by
 have h1 := h.1; have h2 := h.2.1
 unfold G.fB RS.expect
 by_cases hc : s.code = 0
 · rw [if_neg (show ¬ s.r.position.fault.code ≠ 0 by simp [r, p, hc]), if_neg (by simp [hc])]
   rw [show s.r.position.b = s.bs from rfl, show s.r.position.at_ = (s.at_ : Int) from rfl, rC (by omega)]
   simp only [Option.bind_some, Int.toNat_natCast]
   have e : dr (b.length : Int) ((s.bs.drop s.at_).length : Int) = ((min b.length (s.bs.drop s.at_).length : Nat) : Int) := by unfold dr; split <;> omega
   rw [e, lu (by omega)]
   simp only [Option.bind_some, Int.toNat_natCast]
   have e2 : (s.bs.drop s.at_).take (min b.length (s.bs.drop s.at_).length) = (s.bs.drop s.at_).take b.length := by
    rw [List.take_eq_take_iff]; omega
   rw [e2, hasPrefix _ _ (by simp; omega)]
   simp only [Option.bind_some]
   by_cases hp : (s.bs.drop s.at_).take b.length = b.take ((s.bs.drop s.at_).take b.length).length
   · rw [if_neg (by rw [decide_eq_true hp.symm]; simp), if_neg (by simpa using hp), DP h (by unfold ko; omega)]
     rfl
   · rw [if_pos (decide_eq_false (fun k => hp k.symm)), if_pos hp, w9]; rfl
 · rw [if_pos (show s.r.position.fault.code ≠ 0 from hc), if_pos hc]
theorem C9 (s : RS) (c n : Int) : G.cc c n s.r = some (s.fail c n).r := by
 unfold G.cc; rw [w9]; rfl
theorem OJ (x : Nat) (c : UInt8) (h : x < 72057594037927936) : IntKind.u64.wrap (IntKind.u64.wrap (256 * (x : Int)) + (c.toNat : Int)) = ((256 * x + c.toNat : Nat) : Int) := by
 have := c.toNat_lt
 rw [qz (x := 256 * (x : Int)) (by omega) (by omega), qz (by omega) (by omega)]; omega
theorem AU {s : RS} (h : s.Fit) {n : Int} (hn : ko n) : G.dq n s.q = some (((s.uint n).1 : Int), (s.uint n).2.q) := by
 have h1 := h.1; have h2 := h.2.1
 unfold G.dq
 by_cases hc : s.code = 0
 · rw [if_neg (show ¬ s.q.code ≠ 0 by simp [q, hc])]
   have e1 : ((if n < 1 then some true else some (decide (n > 8))) : Option Bool) = some (decide (n < 1 ∨ 8 < n)) := by
    by_cases h1 : n < 1 <;> simp [h1]
   rw [e1]; simp only [Option.bind_some, decide_eq_true_eq]
   by_cases hr : n < 1 ∨ 8 < n
   · have hz : size n = -1 := by unfold size; rw [if_pos hr]
     have ht := tv s hc (-1) (by omega)
     rw [if_pos hr, mj, kT s (by rw [hz, ht]), hz, ht]; rfl
   · have hz : size n = n := by unfold size; rw [if_neg hr]
     rw [if_neg hr]
     rw [show IntKind.i64.wrap ((s.q.b.length : Int) - s.q.at_) = (s.bs.length : Int) - s.at_ by simp only [q]; rw [eK (by omega) (by omega)]]
     by_cases hs : (s.bs.length : Int) - s.at_ < n
     · have ht := lx s hc n (by omega) hs
       rw [if_pos hs, show (s.q.b.length : Int) = s.bs.length from rfl, mj, kT s (by rw [hz, ht]), hz, ht]; rfl
     · rw [if_neg hs]
       obtain ⟨k, rfl⟩ : ∃ k : Nat, n = (k : Int) := ⟨n.toNat, by omega⟩
       have ht := jx s hc k (by omega)
       rw [kU s (show (s.take (size k)).1 = _ by rw [hz, ht]), hz, ht]
       have hl : ((s.bs.drop s.at_).take k).length = k := by simp; omega
       refine bA k (fun j => ((num (((s.bs.drop s.at_).take k).take j) : Int), (j : Int), (⟨s.bs, ((s.at_ + j : Nat) : Int), s.code, s.pos⟩ : G.ae))) _ (fun j hj => ?_) ?_ (by simp [num, q])
       · unfold G.ic
         dsimp only
         rw [if_pos (by omega)]
         rw [dh (by omega)]
         simp only [Option.bind_some]
         have hj' : j < ((s.bs.drop s.at_).take k).length := by omega
         have hg : s.bs[s.at_ + j]'(by omega) = ((s.bs.drop s.at_).take k).getD j 0 := by
          rw [sF _ _ _ hj']; simp
         rw [hg, OJ _ _ (vm _ j hj' (by omega)), ← mn _ _ hj', ea hj (by omega), eK (by omega) (by omega)]
         congr
       · unfold G.ic
         rw [if_neg (by simp)]
         simp [q, List.take_take]
 · rw [if_pos (show s.q.code ≠ 0 from hc), kT s (by rw [jW s hc]), jW s hc]; rfl
theorem jO {s : RS} (h : s.Fit) : G.bS s.q = some (s.length.1, s.length.2.q) := by
 unfold G.bS
 rw [AU h (by unfold ko; omega)]
 simp only [Option.bind_some]
 unfold RS.length
 by_cases hc : 4611686018427387903 < (s.uint 8).1
 · rw [if_pos (by omega), if_pos hc, mj]; rfl
 · rw [if_neg (by omega), if_neg hc, eK (by omega) (by omega)]
theorem vX {s : RS} (h : s.Fit) {n : Int} : G.dH n s.q = some ((s.bytes n).1, (s.bytes n).2.q) := by
 have h1 := h.1; have h2 := h.2.1
 unfold G.dH
 by_cases hc : s.code = 0
 · rw [if_neg (show ¬ s.q.code ≠ 0 by simp [q, hc])]
   by_cases hneg : n < 0
   · have ht := tv s hc n hneg
     rw [if_pos hneg, mj, m9 s (by rw [ht]), ht]; rfl
   · rw [if_neg hneg]
     rw [show IntKind.i64.wrap ((s.q.b.length : Int) - s.q.at_) = (s.bs.length : Int) - s.at_ by simp only [q]; rw [eK (by omega) (by omega)]]
     by_cases hs : (s.bs.length : Int) - s.at_ < n
     · have ht := lx s hc n (by omega) hs
       rw [if_pos hs, show (s.q.b.length : Int) = s.bs.length from rfl, mj, m9 s (by rw [ht]), ht]; rfl
     · rw [if_neg hs]
       obtain ⟨k, rfl⟩ : ∃ k : Nat, n = (k : Int) := ⟨n.toNat, by omega⟩
       have ht := jx s hc k (by omega)
       rw [wM s (show (s.take k).1 = _ by rw [ht]), ht]
       simp only [q]
       rw [eK (by omega) (by omega), pL (by omega)]
       have : ((s.at_ : Int) + (k : Int)).toNat = s.at_ + k := by omega
       simp only [Option.bind_some, Int.toNat_natCast, this, List.drop_take, Nat.add_sub_cancel_left]
       simp
 · rw [if_pos (show s.q.code ≠ 0 from hc), m9 s (by rw [jW s hc]), jW s hc]
theorem Hg {s : RS} (h : s.Fit) (b : List UInt8) (c : Int) (hb : b.length ≤ 1099511627776) : G.fS b c s.q = some ((s.expect b c).1, (s.expect b c).2.q) := by
 have h1 := h.1; have h2 := h.2.1
 unfold G.fS RS.expect
 by_cases hc : s.code = 0
 · rw [if_neg (show ¬ s.q.code ≠ 0 by simp [q, hc]), if_neg (c := s.code ≠ 0) (by simp [hc])]
   rw [show IntKind.i64.wrap ((s.q.b.length : Int) - s.q.at_) = (s.bs.length : Int) - s.at_ by simp only [q]; rw [eK (by omega) (by omega)]]
   have hl : (s.bs.drop s.at_).length = s.bs.length - s.at_ := by simp
   have e : dr (b.length : Int) ((s.bs.length : Int) - s.at_) = ((min b.length (s.bs.drop s.at_).length : Nat) : Int) := by unfold dr; split <;> omega
   have hm : ((s.bs.drop s.at_).take b.length).length = min b.length (s.bs.drop s.at_).length := by simp
   rw [e, ← hm]
   simp only [q]
   generalize hk : ((s.bs.drop s.at_).take b.length).length = k at *
   rw [eK (by omega) (by omega), pL (by omega), lu (by omega)]
   have e3 : ((s.at_ : Int) + (k : Int)).toNat = s.at_ + k := by omega
   simp only [Option.bind_some, Int.toNat_natCast, e3, List.drop_take, Nat.add_sub_cancel_left]
   have e2 : (s.bs.drop s.at_).take k = (s.bs.drop s.at_).take b.length := by
    rw [List.take_eq_take_iff]; omega
   rw [e2]
   by_cases hp : (s.bs.drop s.at_).take b.length = b.take k
   · rw [if_neg (by simp [hp]), if_neg (c := _ ≠ List.take k b) (by simpa using hp)]
     by_cases hs : (k : Int) < (b.length : Int)
     · rw [if_pos hs, lx s hc _ (by omega) (by omega)]
       have := mj s 8 (s.bs.length : Int)
       simp only [q] at this
       rw [this]; rfl
     · rw [if_neg hs, jx s hc _ (by omega)]
       have : k = b.length := by omega
       simp [this]
   · rw [if_pos (by simpa using hp), if_pos hp]
     have := mj s c s.at_
     simp only [q] at this
     rw [this]; rfl
 · rw [if_pos (show s.q.code ≠ 0 from hc), if_pos hc]
end RS
end Go.Proofs.YtekpafdhgkocaaaGreat
