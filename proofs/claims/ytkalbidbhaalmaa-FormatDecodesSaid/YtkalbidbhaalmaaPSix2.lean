/- The reader of the reference of layer 6; what both readers expect. -/
import Derived.Test.YtkalbidbhaalmaaPSix
namespace Go.Proofs.Ytkalbidbhaalmaa
open G
namespace RS
theorem hasPrefix (l b : List UInt8) (h : l.length ≤ b.length) : G.bytes_HasPrefix b l = some (decide (b.take l.length = l)) := by
  unfold G.bytes_HasPrefix G.bytes_Equal
  rw [if_pos (by omega), slcTo_of (by omega)]; simp
theorem expect_r {s : RS} (h : s.Fit) (b : List UInt8) (c : Int) (hb : b.length ≤ 1099511627776) : G.wire_Reader_Expect s.r b c = some ((s.expect b c).1, (s.expect b c).2.r) := by
  have h1 := h.1; have h2 := h.2.1
  unfold G.wire_Reader_Expect RS.expect
  by_cases hc : s.code = 0
  · rw [if_neg (show ¬ s.r.position.fault.code ≠ 0 by simp [r, p, hc]), if_neg (by simp [hc])]
    rw [show s.r.position = s.p from rfl, show s.p.b = s.bs from rfl, show s.p.at_ = (s.at_ : Int) from rfl, slcFrom_of (by omega)]
    simp only [Option.bind_some, Int.toNat_natCast]
    have e : imin (b.length : Int) ((s.bs.drop s.at_).length : Int) = ((min b.length (s.bs.drop s.at_).length : Nat) : Int) := by unfold imin; split <;> omega
    rw [e, slcTo_of (by omega)]
    simp only [Option.bind_some, Int.toNat_natCast]
    have e2 : (s.bs.drop s.at_).take (min b.length (s.bs.drop s.at_).length) = (s.bs.drop s.at_).take b.length := by
      rw [List.take_eq_take_iff]; omega
    rw [e2, hasPrefix _ _ (by simp; omega)]
    simp only [Option.bind_some]
    by_cases hp : (s.bs.drop s.at_).take b.length = b.take ((s.bs.drop s.at_).take b.length).length
    · rw [if_neg (by rw [decide_eq_true hp.symm]; simp), if_neg (by simpa using hp), take_p h (by unfold I64; omega)]
      rfl
    · rw [if_pos (decide_eq_false (fun k => hp k.symm)), if_pos hp, fail_p]; rfl
  · rw [if_pos (show s.r.position.fault.code ≠ 0 from hc), if_pos hc]
theorem fail_r (s : RS) (c n : Int) : G.wire_Reader_Fail s.r c n = some (s.fail c n).r := by
  unfold G.wire_Reader_Fail; rw [show s.r.position = s.p from rfl, fail_p]; rfl
theorem num2 (x : Nat) (c : UInt8) (h : x < 72057594037927936) : IntKind.u64.wrap (IntKind.u64.wrap (256 * (x : Int)) + (c.toNat : Int)) = ((256 * x + c.toNat : Nat) : Int) := by
  have := c.toNat_lt
  rw [wu64 (x := 256 * (x : Int)) (by omega) (by omega), wu64 (by omega) (by omega)]; omega
theorem uint_q {s : RS} (h : s.Fit) {n : Int} (hn : I64 n) : G.graftref06_Uint s.q n = some (((s.uint n).1 : Int), (s.uint n).2.q) := by
  have h1 := h.1; have h2 := h.2.1
  unfold G.graftref06_Uint
  by_cases hc : s.code = 0
  · rw [if_neg (show ¬ s.q.code ≠ 0 by simp [q, hc])]
    have e1 : ((if n < 1 then some true else some (decide (n > 8))) : Option Bool) = some (decide (n < 1 ∨ 8 < n)) := by
      by_cases h1 : n < 1 <;> simp [h1]
    rw [e1]; simp only [Option.bind_some, decide_eq_true_eq]
    by_cases hr : n < 1 ∨ 8 < n
    · have hz : size n = -1 := by unfold size; rw [if_pos hr]
      have ht := take_neg s hc (-1) (by omega)
      rw [if_pos hr, fail_q, uint_none s (by rw [hz, ht]), hz, ht]; rfl
    · have hz : size n = n := by unfold size; rw [if_neg hr]
      rw [if_neg hr]
      rw [show IntKind.i64.wrap ((s.q.b.length : Int) - s.q.at_) = (s.bs.length : Int) - s.at_ by simp only [q]; rw [w64 (by omega) (by omega)]]
      by_cases hs : (s.bs.length : Int) - s.at_ < n
      · have ht := take_short s hc n (by omega) hs
        rw [if_pos hs, show (s.q.b.length : Int) = s.bs.length from rfl, fail_q, uint_none s (by rw [hz, ht]), hz, ht]; rfl
      · rw [if_neg hs]
        obtain ⟨k, rfl⟩ : ∃ k : Nat, n = (k : Int) := ⟨n.toNat, by omega⟩
        have ht := take_some s hc k (by omega)
        rw [uint_some s (show (s.take (size k)).1 = _ by rw [hz, ht]), hz, ht]
        have hl : ((s.bs.drop s.at_).take k).length = k := by simp; omega
        refine Iter_count k (fun j => (((s.at_ + j : Nat) : Int), (num (((s.bs.drop s.at_).take k).take j) : Int), (j : Int))) _ (fun j hj => ?_) ?_ (by simp [num, q])
        · unfold G.graftref06_Uint_l1
          dsimp only
          rw [if_pos (by omega)]
          simp only [show s.q.b = s.bs from rfl]
          rw [idx_of (by omega)]
          simp only [Option.bind_some]
          have hj' : j < ((s.bs.drop s.at_).take k).length := by omega
          have hg : s.bs[s.at_ + j]'(by omega) = ((s.bs.drop s.at_).take k).getD j 0 := by
            rw [getD_lt _ _ _ hj']; simp
          rw [hg, num2 _ _ (num_take_lt _ j hj' (by omega)), ← num_take_succ _ _ hj', inc64 hj (by omega), w64 (by omega) (by omega)]
          congr
        · unfold G.graftref06_Uint_l1
          rw [if_neg (by simp)]
          simp [q, List.take_take]
  · rw [if_pos (show s.q.code ≠ 0 from hc), uint_none s (by rw [take_bad s hc]), take_bad s hc]; rfl
theorem length_q {s : RS} (h : s.Fit) : G.graftref06_Length s.q = some (s.length.1, s.length.2.q) := by
  unfold G.graftref06_Length
  rw [uint_q h (by unfold I64; omega)]
  simp only [Option.bind_some]
  unfold RS.length
  by_cases hc : 4611686018427387903 < (s.uint 8).1
  · rw [if_pos (by omega), if_pos hc, fail_q]; rfl
  · rw [if_neg (by omega), if_neg hc, w64 (by omega) (by omega)]
theorem bytes_q {s : RS} (h : s.Fit) {n : Int} : G.graftref06_Bytes s.q n = some ((s.bytes n).1, (s.bytes n).2.q) := by
  have h1 := h.1; have h2 := h.2.1
  unfold G.graftref06_Bytes
  by_cases hc : s.code = 0
  · rw [if_neg (show ¬ s.q.code ≠ 0 by simp [q, hc])]
    by_cases hneg : n < 0
    · have ht := take_neg s hc n hneg
      rw [if_pos hneg, fail_q, bytes_none s (by rw [ht]), ht]; rfl
    · rw [if_neg hneg]
      rw [show IntKind.i64.wrap ((s.q.b.length : Int) - s.q.at_) = (s.bs.length : Int) - s.at_ by simp only [q]; rw [w64 (by omega) (by omega)]]
      by_cases hs : (s.bs.length : Int) - s.at_ < n
      · have ht := take_short s hc n (by omega) hs
        rw [if_pos hs, show (s.q.b.length : Int) = s.bs.length from rfl, fail_q, bytes_none s (by rw [ht]), ht]; rfl
      · rw [if_neg hs]
        obtain ⟨k, rfl⟩ : ∃ k : Nat, n = (k : Int) := ⟨n.toNat, by omega⟩
        have ht := take_some s hc k (by omega)
        rw [bytes_some s (show (s.take k).1 = _ by rw [ht]), ht]
        simp only [q]
        rw [w64 (by omega) (by omega), slcMid_of (by omega)]
        have : ((s.at_ : Int) + (k : Int)).toNat = s.at_ + k := by omega
        simp only [Option.bind_some, Int.toNat_natCast, this, List.drop_take, Nat.add_sub_cancel_left]
        simp
  · rw [if_pos (show s.q.code ≠ 0 from hc), bytes_none s (by rw [take_bad s hc]), take_bad s hc]
theorem expect_q {s : RS} (h : s.Fit) (b : List UInt8) (c : Int) (hb : b.length ≤ 1099511627776) : G.graftref06_Expect s.q b c = some ((s.expect b c).1, (s.expect b c).2.q) := by
  have h1 := h.1; have h2 := h.2.1
  unfold G.graftref06_Expect RS.expect
  by_cases hc : s.code = 0
  · rw [if_neg (show ¬ s.q.code ≠ 0 by simp [q, hc]), if_neg (c := s.code ≠ 0) (by simp [hc])]
    rw [show IntKind.i64.wrap ((s.q.b.length : Int) - s.q.at_) = (s.bs.length : Int) - s.at_ by simp only [q]; rw [w64 (by omega) (by omega)]]
    have hl : (s.bs.drop s.at_).length = s.bs.length - s.at_ := by simp
    have e : imin (b.length : Int) ((s.bs.length : Int) - s.at_) = ((min b.length (s.bs.drop s.at_).length : Nat) : Int) := by unfold imin; split <;> omega
    have hm : ((s.bs.drop s.at_).take b.length).length = min b.length (s.bs.drop s.at_).length := by simp
    rw [e, ← hm]
    simp only [q]
    generalize hk : ((s.bs.drop s.at_).take b.length).length = k at *
    rw [w64 (by omega) (by omega), slcMid_of (by omega), slcTo_of (by omega)]
    have e3 : ((s.at_ : Int) + (k : Int)).toNat = s.at_ + k := by omega
    simp only [Option.bind_some, Int.toNat_natCast, e3, List.drop_take, Nat.add_sub_cancel_left]
    have e2 : (s.bs.drop s.at_).take k = (s.bs.drop s.at_).take b.length := by
      rw [List.take_eq_take_iff]; omega
    rw [e2]
    by_cases hp : (s.bs.drop s.at_).take b.length = b.take k
    · rw [if_neg (by simp [hp]), if_neg (c := _ ≠ List.take k b) (by simpa using hp)]
      by_cases hs : (k : Int) < (b.length : Int)
      · rw [if_pos hs, take_short s hc _ (by omega) (by omega)]
        have := fail_q s 8 (s.bs.length : Int)
        simp only [q] at this
        rw [this]; rfl
      · rw [if_neg hs, take_some s hc _ (by omega)]
        have : k = b.length := by omega
        simp [this]
    · rw [if_pos (by simpa using hp), if_pos hp]
      have := fail_q s c s.at_
      simp only [q] at this
      rw [this]; rfl
  · rw [if_pos (show s.q.code ≠ 0 from hc), if_pos hc]
end RS
end Go.Proofs.Ytkalbidbhaalmaa
