/- Decoding encodings: whole, followed by more, cut off; and encoding what was decoded. No program in sight. -/
import Derived.Test.YtkalbidbhaalmaaPEnc3
namespace Go.Proofs.Ytkalbidbhaalmaa
open G
open RS
/-- No error yet, and what is still to be read. -/
structure Rd (s : RS) (rest : List UInt8) : Prop where
  c : s.code = 0
  p : s.pos = 0
  a : s.at_ ≤ s.bs.length
  d : s.bs.drop s.at_ = rest
theorem Rd.len {s : RS} {l : List UInt8} (h : Rd s l) : s.at_ + l.length = s.bs.length := by have := h.a; rw [← h.d, List.length_drop]; omega
theorem Rd.take {s : RS} {l rest : List UInt8} (h : Rd s (l ++ rest)) : s.take l.length = (some l, { s with at_ := s.at_ + l.length }) ∧ Rd { s with at_ := s.at_ + l.length } rest := by
  have hl := h.len
  rw [List.length_append] at hl
  refine ⟨?_, h.c, h.p, by show s.at_ + l.length ≤ s.bs.length; omega, ?_⟩
  · rw [take_some s h.c l.length (by omega), h.d, List.take_left]
  · show s.bs.drop (s.at_ + l.length) = rest
    rw [← List.drop_drop, h.d, List.drop_left]
theorem Rd.uint {s : RS} {k v : Nat} {rest : List UInt8} (h : Rd s (be k v ++ rest)) (h1 : 1 ≤ k) (h8 : k ≤ 8) (hv : v < 256 ^ k) : ∃ s', s.uint k = (v, s') ∧ Rd s' rest ∧ s'.bs = s.bs := by
  obtain ⟨ht, hr⟩ := h.take
  rw [be_len] at ht hr
  have hz : size k = k := by unfold size; rw [if_neg (by omega)]
  refine ⟨_, ?_, hr, rfl⟩
  rw [uint_some s (show (s.take (size k)).1 = _ by rw [hz, ht]), hz, ht, num_be hv]
theorem Rd.length {s : RS} {v : Nat} {rest : List UInt8} (h : Rd s (be 8 v ++ rest)) (hv : v ≤ 4611686018427387903) : ∃ s', s.length = ((v : Int), s') ∧ Rd s' rest ∧ s'.bs = s.bs := by
  obtain ⟨s', e, hr⟩ := h.uint (by decide) (by decide) (lt8 hv)
  refine ⟨s', ?_, hr⟩
  unfold RS.length
  rw [show s.uint 8 = (v, s') from e, if_neg (by dsimp only; omega)]
theorem Rd.bytes {s : RS} {l rest : List UInt8} (h : Rd s (l ++ rest)) : ∃ s', s.bytes l.length = (l, s') ∧ Rd s' rest ∧ s'.bs = s.bs := by
  obtain ⟨ht, hr⟩ := h.take
  exact ⟨_, by rw [bytes_some s (show (s.take l.length).1 = _ by rw [ht]), ht], hr, rfl⟩
theorem Rd.expect {s : RS} {l rest : List UInt8} (h : Rd s (l ++ rest)) (c : Int) : ∃ s', s.expect l c = (true, s') ∧ Rd s' rest ∧ s'.bs = s.bs := by
  obtain ⟨ht, hr⟩ := h.take
  refine ⟨_, ?_, hr, rfl⟩
  unfold RS.expect
  rw [if_neg (by simp [h.c]), h.d, List.take_left, List.take_length, if_neg (by simp), ht]; rfl
theorem Rd.cmd {s : RS} {c : G.Command} {rest : List UInt8} (hg : Good c) (hb : s.bs.length ≤ 1099511627776) (h : Rd s (encC c ++ rest)) : ∃ s', s.cmd = (c, s') ∧ Rd s' rest ∧ s'.bs = s.bs := by
  obtain ⟨t, et, bt⟩ := hg.to
  unfold encC at h
  obtain ⟨kd, to, from_, len, data⟩ := c
  dsimp only at *
  subst et
  simp only [Int.toNat_natCast] at h
  unfold RS.cmd
  rcases hg.k with hk | hk <;> dsimp only at hk <;> subst hk
  · obtain ⟨f, l, ef, bf, el, bl, ed⟩ := hg.copy rfl
    dsimp only at ef el ed
    subst ef el ed
    rw [if_pos rfl] at h
    simp only [List.append_assoc, Int.toNat_natCast] at h
    obtain ⟨s1, e1, r1, b1⟩ := h.uint (by decide) (by decide) (by decide)
    obtain ⟨s2, e2, r2, b2⟩ := r1.length bt
    obtain ⟨s3, e3, r3, b3⟩ := r2.length bf
    obtain ⟨s4, e4, r4, b4⟩ := r3.length bl
    refine ⟨s4, ?_, r4, by rw [b4, b3, b2, b1]⟩
    have e1' : s.uint 1 = (1, s1) := e1
    rw [e1', if_pos rfl]
    simp only [e2, e3, e4]
  · obtain ⟨ef, el⟩ := hg.lit rfl
    dsimp only at ef el
    subst ef el
    rw [if_neg (by decide)] at h
    simp only [List.append_assoc] at h
    have hd : data.length ≤ 4611686018427387903 := by
      have := h.len; simp only [List.length_append] at this; omega
    obtain ⟨s1, e1, r1, b1⟩ := h.uint (by decide) (by decide) (by decide)
    obtain ⟨s2, e2, r2, b2⟩ := r1.length bt
    obtain ⟨s3, e3, r3, b3⟩ := r2.length hd
    obtain ⟨s4, e4, r4, b4⟩ := r3.bytes
    refine ⟨s4, ?_, r4, by rw [b4, b3, b2, b1]⟩
    have e1' : s.uint 1 = (2, s1) := e1
    rw [e1', if_neg (by dsimp only; decide), if_pos rfl]
    simp only [e2, e3, e4]
theorem Rd.cmds {rest : List UInt8} : ∀ (l : List G.Command) (s : RS) (acc : List G.Command), (∀ c ∈ l, Good c) → s.bs.length ≤ 1099511627776 → Rd s (l.flatMap encC ++ rest) → ∃ s', RS.cmds l.length s acc = (s', acc ++ l) ∧ Rd s' rest ∧ s'.bs = s.bs
  | [], s, acc, _, _, h => ⟨s, by simp [RS.cmds], h, rfl⟩
  | c :: l, s, acc, hg, hb, h => by
    rw [List.flatMap_cons, List.append_assoc] at h
    obtain ⟨s1, e1, r1, b1⟩ := h.cmd (hg c (List.mem_cons_self ..)) hb
    obtain ⟨s2, e2, r2, b2⟩ := Rd.cmds l s1 (acc ++ [c]) (fun x hx => hg x (List.mem_cons_of_mem _ hx)) (by rw [b1]; exact hb) r1
    refine ⟨s2, ?_, r2, by rw [b2, b1]⟩
    rw [List.length_cons, RS.cmds, if_pos h.c, e1, e2, List.append_assoc]; rfl
theorem hash_arrL (f : Nat → UInt8) (i : Nat) (h : i < 32) : hash (arrL 32 f) i = f i := by
  unfold hash cpArr
  rw [if_pos ⟨h, by rw [arrL_len]; exact h⟩, getD_lt _ _ _ (by rw [arrL_len]; exact h)]
  simp [arrL]
/-- Everything that happens while an encoding is decoded. -/
theorem dec_run {d : G.Delta} (hg : GoodD d) (hn : d.commands.length < 4294967296) (tail : List UInt8) (hb : (enc d ++ tail).length ≤ 1099511627776) :
    Rd (Dec.s8 (enc d ++ tail)).1 tail ∧ Dec.d (enc d ++ tail) = ⟨d.oldLen, d.newLen, hash (arrL 32 d.oldHash), hash (arrL 32 d.newHash), d.commands⟩ ∧ (Dec.s8 (enc d ++ tail)).1.bs = enc d ++ tail := by
  obtain ⟨⟨n1, e1, b1⟩, ⟨n2, e2, b2⟩, hall⟩ := hg
  have h0 : Rd (Dec.s0 (enc d ++ tail)) (enc d ++ tail) := ⟨rfl, rfl, Nat.zero_le _, rfl⟩
  have hbs : (Dec.s0 (enc d ++ tail)).bs = enc d ++ tail := rfl
  generalize hB : enc d ++ tail = B at *
  have hB' : B = magic ++ (be 1 1 ++ (be 8 n1 ++ (be 8 n2 ++ (arrL 32 d.oldHash ++ (arrL 32 d.newHash ++ (be 4 d.commands.length ++ (d.commands.flatMap encC ++ tail))))))) := by rw [← hB]; simp [enc, encH, e1, e2]
  replace h0 : Rd (Dec.s0 B) _ := ⟨h0.c, h0.p, h0.a, h0.d.trans hB'⟩
  obtain ⟨t1, q1, r1, u1⟩ := h0.expect 9
  have q1' : Dec.s1 B = t1 := Dec.a1.symm.trans (congrArg Prod.snd q1)
  obtain ⟨t2, q2, r2, u2⟩ := r1.uint (by decide) (by decide) (by decide)
  have q2' : Dec.s2 B = t2 := by
    rw [Dec.a2, q1', show t1.uint 1 = (1, t2) from q2, if_neg (by simp)]
  obtain ⟨t3, q3, r3, u3⟩ := r2.length b1
  have q3' : Dec.s3 B = t3 := by rw [← Dec.a3, q2', q3]
  obtain ⟨t4, q4, r4, u4⟩ := r3.length b2
  have q4' : Dec.s4 B = t4 := by rw [← Dec.a4, q3', q4]
  obtain ⟨t5, q5, r5, u5⟩ := r4.bytes
  rw [arrL_len] at q5
  replace q5 : t4.bytes 32 = _ := q5
  have q5' : Dec.s5 B = t5 := by rw [← Dec.a5, q4', q5]
  obtain ⟨t6, q6, r6, u6⟩ := r5.bytes
  rw [arrL_len] at q6
  replace q6 : t5.bytes 32 = _ := q6
  have q6' : Dec.s6 B = t6 := by rw [← Dec.a6, q5', q6]
  obtain ⟨t7, q7, r7, u7⟩ := r6.uint (by decide) (by decide) (by simpa using hn)
  replace q7 : t6.uint 4 = _ := q7
  have q7' : Dec.s7 B = t7 := by rw [← Dec.a7, q6', q7]
  have hbs7 : t7.bs = B := by rw [u7, u6, u5, u4, u3, u2, u1]; exact hbs
  obtain ⟨t8, q8, r8, u8⟩ := Rd.cmds d.commands t7 [] hall (by rw [hbs7]; exact hb) r7
  have q8' : Dec.s8 B = (t8, d.commands) := by rw [← Dec.a8, q6', q7, q7']; exact q8
  rw [q8']
  refine ⟨r8, ?_, by rw [u8, hbs7]⟩
  rw [Dec.ad, q2', q3', q4', q5', q3, q4, q5, q6, q8', e1, e2]
/-- An encoding, or an encoding and more. -/
theorem dec_enc {d : G.Delta} (hg : GoodD d) (hn : d.commands.length < 4294967296) (tail : List UInt8) (hb : (enc d ++ tail).length ≤ 1099511627776) :
    dec (enc d ++ tail) = if tail = [] then (⟨d.oldLen, d.newLen, hash (arrL 32 d.oldHash), hash (arrL 32 d.newHash), d.commands⟩, 0, 0) else (zeroD, 12, ((enc d).length : Int)) := by
  obtain ⟨hr, hd, hbs⟩ := dec_run hg hn tail hb
  have hl := hr.len
  rw [hbs, List.length_append] at hl
  have ha : (Dec.s8 (enc d ++ tail)).1.at_ = (enc d).length := by omega
  unfold dec
  rw [Dec.a9, ha]
  cases tail with
  | nil => have h1 : ¬ (enc d).length < (enc d ++ []).length := by simp
           rw [if_neg h1, if_neg (fun k => k hr.c), if_pos rfl, hd]
  | cons x tail =>
    have h1 : (enc d).length < (enc d ++ x :: tail).length := by simp
    rw [if_pos h1, if_pos (fail_code (by decide)), if_neg (by simp)]
    unfold RS.fail
    rw [if_pos ⟨hr.c, by decide⟩]
/-- The same reader over bytes that are cut off. -/
structure Cut (k : Nat) (s t : RS) : Prop where
  b : t.bs = s.bs.take k
  hk : k ≤ s.bs.length
  c : (t.code = 0 ∧ t.at_ = s.at_ ∧ s.at_ ≤ k) ∨ (t.code = 8 ∧ t.pos = k)
theorem Cut.blen {k : Nat} {s t : RS} (h : Cut k s t) : t.bs.length = k := by rw [h.b, List.length_take]; have := h.hk; omega
theorem Cut.bad {k : Nat} {s s' t : RS} (h : Cut k s t) (hb : s'.bs = s.bs) (hc : t.code ≠ 0) : Cut k s' t := by
  refine ⟨by rw [hb]; exact h.b, by rw [hb]; exact h.hk, .inr ?_⟩
  rcases h.c with c | c
  · exact absurd c.1 hc
  · exact c
theorem Cut.take {k : Nat} {s t : RS} (h : Cut k s t) {n : Int} (hc : (s.take n).2.code = 0) : Cut k (s.take n).2 (t.take n).2 ∧ ((t.take n).2.code = 0 → (t.take n).1 = (s.take n).1) := by
  obtain ⟨g1, g2, g3, g4⟩ := take_good hc
  by_cases ht : t.code = 0
  · obtain ⟨ha, hk⟩ : t.at_ = s.at_ ∧ s.at_ ≤ k := by
      rcases h.c with c | c
      · exact c.2
      · omega
    have hbl := h.blen
    obtain ⟨m, rfl⟩ : ∃ m : Nat, n = (m : Int) := ⟨n.toNat, by omega⟩
    by_cases hs : s.at_ + m ≤ k
    · rw [g4, take_some t ht m (by omega)]
      refine ⟨⟨h.b, h.hk, .inl ⟨ht, ?_, ?_⟩⟩, fun _ => ?_⟩
      · show t.at_ + m = s.at_ + (m : Int).toNat; rw [ha]; simp
      · show s.at_ + (m : Int).toNat ≤ k; simpa using hs
      · rw [h.b, ha, List.drop_take, List.take_take]
        simp only [Int.toNat_natCast, Option.some.injEq]
        congr 1; omega
    · have e := take_short t ht m (by omega) (by omega)
      rw [g4, e]
      refine ⟨⟨by rw [(fail_bs _ _ _).1]; exact h.b, h.hk, .inr ?_⟩, fun c => absurd c (fail_code (by decide))⟩
      unfold RS.fail; rw [if_pos ⟨ht, by decide⟩, hbl]; exact ⟨rfl, rfl⟩
  · rw [take_bad t ht]
    exact ⟨h.bad (take_bs s n) ht, fun c => absurd c ht⟩
theorem Cut.uint {k : Nat} {s t : RS} (h : Cut k s t) {n : Int} (hc : (s.uint n).2.code = 0) : Cut k (s.uint n).2 (t.uint n).2 ∧ ((t.uint n).2.code = 0 → (t.uint n).1 = (s.uint n).1) := by
  rw [uint_snd] at hc
  have ⟨a, b⟩ := h.take hc
  rw [uint_snd, uint_snd]
  refine ⟨a, fun c => ?_⟩
  have := b c
  revert this
  unfold RS.uint
  generalize t.take (size n) = T
  generalize s.take (size n) = S
  intro this
  obtain ⟨x, y⟩ := T
  obtain ⟨x', y'⟩ := S
  dsimp only at this
  subst this
  cases x <;> rfl
theorem Cut.length {k : Nat} {s t : RS} (h : Cut k s t) (hc : s.length.2.code = 0) : Cut k s.length.2 t.length.2 ∧ (t.length.2.code = 0 → t.length.1 = s.length.1) := by
  obtain ⟨g1, g2, g3, g4⟩ := length_good hc
  have hu : s.uint 8 = (num ((s.bs.drop s.at_).take 8), { s with at_ := s.at_ + 8 }) := by
    have hc' := hc
    unfold RS.length at hc'
    split at hc'
    · exact absurd hc' (fail_code (by decide))
    · exact (uint_good (by decide) (by decide) hc').2.2
  have ⟨a, b⟩ := h.uint (n := 8) (by rw [hu]; exact g1)
  have es : s.length = (((s.uint 8).1 : Int), (s.uint 8).2) := by unfold RS.length; rw [hu, if_neg (by dsimp only; omega)]
  by_cases hk : 4611686018427387903 < (t.uint 8).1
  · by_cases hb : (t.uint 8).2.code = 0
    · rw [b hb, hu] at hk; dsimp only at hk; omega
    · have e : t.length = (0, (t.uint 8).2) := by unfold RS.length; rw [if_pos hk, fail_bad _ hb]
      rw [e, es]
      exact ⟨a, fun c => absurd c hb⟩
  · have e : t.length = (((t.uint 8).1 : Int), (t.uint 8).2) := by unfold RS.length; rw [if_neg hk]
    rw [e, es]
    exact ⟨a, fun c => by rw [b c]⟩
theorem Cut.bytes {k : Nat} {s t : RS} (h : Cut k s t) {n : Int} (hc : (s.bytes n).2.code = 0) : Cut k (s.bytes n).2 (t.bytes n).2 ∧ ((t.bytes n).2.code = 0 → (t.bytes n).1 = (s.bytes n).1) := by
  rw [bytes_snd] at hc
  have ⟨a, b⟩ := h.take hc
  rw [bytes_snd, bytes_snd]
  refine ⟨a, fun c => ?_⟩
  have := b c
  revert this
  unfold RS.bytes
  generalize t.take n = T
  generalize s.take n = S
  intro this
  obtain ⟨x, y⟩ := T
  obtain ⟨x', y'⟩ := S
  dsimp only at this
  subst this
  cases x <;> rfl
theorem Cut.expect {k : Nat} {s t : RS} (h : Cut k s t) {l : List UInt8} {c : Int} (hc0 : c ≠ 0) (hc : (s.expect l c).2.code = 0) : Cut k (s.expect l c).2 (t.expect l c).2 := by
  have hbs := expect_bs s l c
  unfold RS.expect at hc hbs ⊢
  by_cases h0 : s.code = 0
  · rw [if_neg (by simp [h0])] at hc hbs ⊢
    by_cases hp : (s.bs.drop s.at_).take l.length = l.take ((s.bs.drop s.at_).take l.length).length
    · rw [if_neg (by simpa using hp)] at hc hbs ⊢
      obtain ⟨_, _, g3, g4⟩ := take_good hc
      have hX : (s.bs.drop s.at_).take l.length = l := by
        rw [hp, List.take_of_length_le]; simp; omega
      by_cases ht : t.code = 0
      · obtain ⟨ha, hk⟩ : t.at_ = s.at_ ∧ s.at_ ≤ k := by
          rcases h.c with c | c
          · exact c.2
          · omega
        have hY : (t.bs.drop t.at_).take l.length = l.take (k - s.at_) := by
          rw [h.b, ha, List.drop_take]
          conv => rhs; rw [← hX]
          rw [List.take_take, List.take_take, Nat.min_comm]
        rw [if_neg (by simp [ht]), if_neg]
        · exact (h.take hc).1
        · simp only [ne_eq, Classical.not_not]
          rw [hY, List.length_take, List.take_eq_take_iff]; omega
      · rw [if_pos ht]
        exact h.bad hbs ht
    · rw [if_pos hp] at hc
      exact absurd hc (fail_code hc0)
  · rw [if_pos h0] at hc
    exact absurd hc h0
theorem uint_fail {s : RS} {n : Int} (h : (s.uint n).2.code ≠ 0) : (s.uint n).1 = 0 := by
  cases ht : (s.take (size n)).1 with
  | none => rw [uint_none s ht]
  | some l =>
    exfalso; apply h
    rw [uint_snd]
    unfold RS.take at ht ⊢
    split at ht
    · cases ht
    · rename_i h1
      rw [if_neg h1]
      split at ht
      · cases ht
      · rename_i h2
        rw [if_neg h2]
        split at ht
        · cases ht
        · rename_i h3
          rw [if_neg h3]; simpa using h1
theorem Cut.cmd {k : Nat} {s t : RS} (h : Cut k s t) (hc : s.cmd.2.code = 0) : Cut k s.cmd.2 t.cmd.2 ∧ (t.cmd.2.code = 0 → t.cmd.1 = s.cmd.1) := by
  have hbs := cmd_bs s
  have key : (s.uint 1).2.code = 0 → (t.uint 1).2.code ≠ 0 → Cut k s.cmd.2 t.cmd.2 ∧ (t.cmd.2.code = 0 → t.cmd.1 = s.cmd.1) := by
    intro h1 h2
    have e : t.cmd.2 = (t.uint 1).2 := by
      unfold RS.cmd; rw [uint_fail h2, if_neg (by decide), if_neg (by decide), fail_bad _ h2]
    rw [e]
    exact ⟨(h.uint h1).1.bad (by rw [hbs, uint_bs]) h2, fun c => absurd c h2⟩
  by_cases k1 : (s.uint 1).1 = 1
  · have es : s.cmd = (⟨1, (s.uint 1).2.length.1, (s.uint 1).2.length.2.length.1, (s.uint 1).2.length.2.length.2.length.1, []⟩, (s.uint 1).2.length.2.length.2.length.2) := by unfold RS.cmd; rw [if_pos k1]
    have c3 : (s.uint 1).2.length.2.length.2.length.2.code = 0 := by rw [es] at hc; exact hc
    have c2 := (length_good c3).1
    have c1 := (length_good c2).1
    have c0 := (length_good c1).1
    by_cases t0 : (t.uint 1).2.code = 0
    · have a0 := h.uint c0
      have a1 := a0.1.length c1
      have a2 := a1.1.length c2
      have a3 := a2.1.length c3
      have et : t.cmd = (⟨1, (t.uint 1).2.length.1, (t.uint 1).2.length.2.length.1, (t.uint 1).2.length.2.length.2.length.1, []⟩, (t.uint 1).2.length.2.length.2.length.2) := by unfold RS.cmd; rw [if_pos (by rw [a0.2 t0]; exact k1)]
      rw [es, et]
      refine ⟨a3.1, fun c => ?_⟩
      have d2 := (length_good c).1
      have d1 := (length_good d2).1
      dsimp only
      rw [a3.2 c, a2.2 d2, a1.2 d1]
    · exact key c0 t0
  · by_cases k2 : (s.uint 1).1 = 2
    · have es : s.cmd = (⟨2, (s.uint 1).2.length.1, 0, 0, ((s.uint 1).2.length.2.length.2.bytes (s.uint 1).2.length.2.length.1).1⟩, ((s.uint 1).2.length.2.length.2.bytes (s.uint 1).2.length.2.length.1).2) := by unfold RS.cmd; rw [if_neg k1, if_pos k2]
      have c3 : ((s.uint 1).2.length.2.length.2.bytes (s.uint 1).2.length.2.length.1).2.code = 0 := by rw [es] at hc; exact hc
      have c2 := (bytes_good c3).1
      have c1 := (length_good c2).1
      have c0 := (length_good c1).1
      by_cases t0 : (t.uint 1).2.code = 0
      · have a0 := h.uint c0
        have a1 := a0.1.length c1
        have a2 := a1.1.length c2
        have a3 := a2.1.bytes c3
        have et : t.cmd = (⟨2, (t.uint 1).2.length.1, 0, 0, ((t.uint 1).2.length.2.length.2.bytes (t.uint 1).2.length.2.length.1).1⟩, ((t.uint 1).2.length.2.length.2.bytes (t.uint 1).2.length.2.length.1).2) := by unfold RS.cmd; rw [if_neg (by rw [a0.2 t0]; exact k1), if_pos (by rw [a0.2 t0]; exact k2)]
        rw [es, et]
        by_cases d2 : (t.uint 1).2.length.2.length.2.code = 0
        · have d1 := (length_good d2).1
          rw [a2.2 d2]
          refine ⟨a3.1, fun c => ?_⟩
          dsimp only
          rw [a3.2 c, a1.2 d1]
        · rw [bytes_bad d2]
          refine ⟨a2.1.bad (bytes_bs _ _) d2, fun c => absurd c d2⟩
      · exact key c0 t0
    · have : s.cmd = (⟨0, 0, 0, 0, []⟩, (s.uint 1).2.fail 11 s.at_) := by unfold RS.cmd; rw [if_neg k1, if_neg k2]
      rw [this] at hc
      exact absurd hc (fail_code (by decide))
theorem cmds_code {n : Nat} {s : RS} {l : List G.Command} (h : (RS.cmds n s l).1.code = 0) : s.code = 0 := by
  cases n with
  | zero => exact h
  | succ n =>
    unfold RS.cmds at h; split at h
    · assumption
    · exact h
theorem Cut.cmds {k : Nat} : ∀ (n : Nat) (s t : RS) (acc acc' : List G.Command), Cut k s t → (RS.cmds n s acc).1.code = 0 → Cut k (RS.cmds n s acc).1 (RS.cmds n t acc').1
  | 0, _, _, _, _, h, _ => h
  | n + 1, s, t, acc, acc', h, hc => by
    have h0 := cmds_code hc
    have hb := cmds_bs (n + 1) s acc
    unfold RS.cmds at hc hb ⊢
    rw [if_pos h0] at hc hb ⊢
    by_cases ht : t.code = 0
    · rw [if_pos ht]
      exact Cut.cmds n _ _ _ _ (h.cmd (cmds_code hc)).1 hc
    · rw [if_neg ht]
      exact h.bad hb ht
/-- An encoding that is cut off. -/
theorem dec_cut {d : G.Delta} (hg : GoodD d) (hn : d.commands.length < 4294967296) (hb : (enc d).length ≤ 1099511627776) (k : Nat) (hk : k < (enc d).length) :
    dec ((enc d).take k) = (zeroD, 8, (k : Int)) := by
  obtain ⟨hr, hd, hbs⟩ := dec_run hg hn [] (by simpa using hb)
  rw [List.append_nil] at hr hd hbs
  have hl := hr.len
  rw [hbs] at hl
  generalize enc d = B at *
  have h0 : Cut k (Dec.s0 B) (Dec.s0 (B.take k)) := ⟨rfl, Nat.le_of_lt hk, .inl ⟨rfl, rfl, Nat.zero_le _⟩⟩
  have c8 := hr.c
  have c7 : (Dec.s7 B).code = 0 := by rw [← Dec.a8] at c8; exact cmds_code c8
  obtain ⟨c6, _, e7⟩ := uint_good (s := Dec.s6 B) (n := 4) (by decide) (by decide) (by rw [Dec.a7]; exact c7)
  have c5 := (bytes_good (s := Dec.s5 B) (n := 32) (by rw [Dec.a6]; exact c6)).1
  have c4 := (bytes_good (s := Dec.s4 B) (n := 32) (by rw [Dec.a5]; exact c5)).1
  have c3 := (length_good (s := Dec.s3 B) (by rw [Dec.a4]; exact c4)).1
  have c2 := (length_good (s := Dec.s2 B) (by rw [Dec.a3]; exact c3)).1
  have v1 : ((Dec.s1 B).uint 1).1 = 1 := by
    rw [Dec.a2] at c2
    split at c2
    · exact absurd c2 (fail_code (by decide))
    · rename_i x; simpa using x
  have c2' : ((Dec.s1 B).uint 1).2.code = 0 := by
    rw [Dec.a2, if_neg (by simpa using v1)] at c2; exact c2
  have c1 := (uint_good (by decide) (by decide) c2').1
  have h1 : Cut k (Dec.s1 B) (Dec.s1 (B.take k)) := by
    rw [← Dec.a1, ← Dec.a1]; exact h0.expect (by decide) (by rw [Dec.a1]; exact c1)
  have h2 : Cut k (Dec.s2 B) (Dec.s2 (B.take k)) := by
    have a := h1.uint c2'
    rw [Dec.a2, Dec.a2, if_neg (by simpa using v1)]
    by_cases t : ((Dec.s1 (B.take k)).uint 1).2.code = 0
    · rw [a.2 t, if_neg (by simpa using v1)]; exact a.1
    · rw [fail_bad _ t, ite_self]; exact a.1
  have h3 : Cut k (Dec.s3 B) (Dec.s3 (B.take k)) := by rw [← Dec.a3, ← Dec.a3]; exact (h2.length (by rw [Dec.a3]; exact c3)).1
  have h4 : Cut k (Dec.s4 B) (Dec.s4 (B.take k)) := by rw [← Dec.a4, ← Dec.a4]; exact (h3.length (by rw [Dec.a4]; exact c4)).1
  have h5 : Cut k (Dec.s5 B) (Dec.s5 (B.take k)) := by rw [← Dec.a5, ← Dec.a5]; exact (h4.bytes (by rw [Dec.a5]; exact c5)).1
  have h6 : Cut k (Dec.s6 B) (Dec.s6 (B.take k)) := by rw [← Dec.a6, ← Dec.a6]; exact (h5.bytes (by rw [Dec.a6]; exact c6)).1
  have a7 := h6.uint (n := 4) (by rw [Dec.a7]; exact c7)
  have h8 : Cut k (Dec.s8 B).1 (Dec.s8 (B.take k)).1 := by
    by_cases t : ((Dec.s6 (B.take k)).uint 4).2.code = 0
    · have a := a7.1
      rw [Dec.a7, Dec.a7] at a
      rw [← Dec.a8, ← Dec.a8, a7.2 t]
      exact Cut.cmds _ _ _ _ _ a (by rw [Dec.a8]; exact c8)
    · have e : (Dec.s8 (B.take k)).1 = (Dec.s7 (B.take k)) := by
        rw [← Dec.a8]
        rw [Dec.a7] at t
        generalize ((Dec.s6 (B.take k)).uint 4).1 = n
        cases n with
        | zero => rfl
        | succ n => unfold RS.cmds; rw [if_neg t]
      have a := a7.1
      rw [Dec.a7, Dec.a7] at a
      rw [e]
      refine a.bad (by rw [← Dec.a8, cmds_bs]) (by rw [← Dec.a7]; exact t)
  have hat : (Dec.s8 B).1.at_ = B.length := by simpa using hl
  have h9 : (Dec.s8 (B.take k)).1.code = 8 ∧ (Dec.s8 (B.take k)).1.pos = k := by
    rcases h8.c with c | c
    · omega
    · exact c
  have e9 : Dec.s9 (B.take k) = (Dec.s8 (B.take k)).1 := by
    rw [Dec.a9, fail_bad _ (by rw [h9.1]; decide), ite_self]
  unfold dec
  rw [e9, h9.1, h9.2, if_pos (by decide)]
/-- What a reader read on its way. -/
def Eats (s s' : RS) (l : List UInt8) : Prop := s.bs.drop s.at_ = l ++ s'.bs.drop s'.at_
theorem Eats.trans {s s' s'' : RS} {l l' : List UInt8} (h : Eats s s' l) (h' : Eats s' s'' l') : Eats s s'' (l ++ l') := by
  unfold Eats at *; rw [h, h', List.append_assoc]
theorem eat {s : RS} {n : Nat} (h : s.at_ + n ≤ s.bs.length) : Eats s { s with at_ := s.at_ + n } ((s.bs.drop s.at_).take n) := by
  unfold Eats; dsimp only; rw [← List.drop_drop, List.take_append_drop]
theorem uint_eats {s : RS} {k : Nat} (h1 : 1 ≤ k) (h8 : k ≤ 8) (hc : (s.uint k).2.code = 0) : s.code = 0 ∧ Eats s (s.uint k).2 (be k (s.uint k).1) := by
  obtain ⟨a, b, e⟩ := uint_good (by omega) (by omega) hc
  refine ⟨a, ?_⟩
  rw [e]
  have hl : ((s.bs.drop s.at_).take (k : Int).toNat).length = k := by simp; omega
  have := be_num ((s.bs.drop s.at_).take (k : Int).toNat)
  rw [hl] at this
  dsimp only
  rw [this]
  exact eat (by simp; omega)
theorem length_eats {s : RS} (hc : s.length.2.code = 0) : s.code = 0 ∧ ∃ n : Nat, s.length.1 = (n : Int) ∧ n ≤ 4611686018427387903 ∧ Eats s s.length.2 (be 8 n) := by
  obtain ⟨a, b, c, e⟩ := length_good hc
  refine ⟨a, _, by rw [e], c, ?_⟩
  rw [e]
  have hl : ((s.bs.drop s.at_).take 8).length = 8 := by simp; omega
  have := be_num ((s.bs.drop s.at_).take 8)
  rw [hl] at this
  rw [this]
  exact eat (by omega)
theorem bytes_eats {s : RS} {n : Int} (hc : (s.bytes n).2.code = 0) : s.code = 0 ∧ ((s.bytes n).1.length : Int) = n ∧ Eats s (s.bytes n).2 (s.bytes n).1 := by
  obtain ⟨a, b, c, e⟩ := bytes_good hc
  refine ⟨a, by rw [e]; simp; omega, ?_⟩
  rw [e]
  exact eat (by omega)
theorem cmd_eats {s : RS} (hc : s.cmd.2.code = 0) : Good s.cmd.1 ∧ Eats s s.cmd.2 (encC s.cmd.1) := by
  by_cases k1 : (s.uint 1).1 = 1
  · have es : s.cmd = (⟨1, (s.uint 1).2.length.1, (s.uint 1).2.length.2.length.1, (s.uint 1).2.length.2.length.2.length.1, []⟩, (s.uint 1).2.length.2.length.2.length.2) := by unfold RS.cmd; rw [if_pos k1]
    rw [es] at hc
    obtain ⟨c2, n3, l3, b3, x3⟩ := length_eats hc
    obtain ⟨c1, n2, l2, b2, x2⟩ := length_eats c2
    obtain ⟨c0, n1, l1, b1, x1⟩ := length_eats c1
    obtain ⟨_, x0⟩ := uint_eats (k := 1) (by decide) (by decide) c0
    rw [es, l1, l2, l3]
    refine ⟨⟨.inl rfl, ⟨n1, rfl, b1⟩, fun _ => ⟨n2, n3, rfl, b2, rfl, b3, rfl⟩, fun k => absurd (show (1 : Int) = 2 from k) (by decide)⟩, ?_⟩
    rw [show ((s.uint ((1 : Nat) : Int)).1) = 1 from k1] at x0
    exact x0.trans (x1.trans (x2.trans x3))
  · by_cases k2 : (s.uint 1).1 = 2
    · have es : s.cmd = (⟨2, (s.uint 1).2.length.1, 0, 0, ((s.uint 1).2.length.2.length.2.bytes (s.uint 1).2.length.2.length.1).1⟩, ((s.uint 1).2.length.2.length.2.bytes (s.uint 1).2.length.2.length.1).2) := by unfold RS.cmd; rw [if_neg k1, if_pos k2]
      rw [es] at hc
      obtain ⟨c2, l3, x3⟩ := bytes_eats hc
      obtain ⟨c1, n2, l2, b2, x2⟩ := length_eats c2
      obtain ⟨c0, n1, l1, b1, x1⟩ := length_eats c1
      obtain ⟨_, x0⟩ := uint_eats (k := 1) (by decide) (by decide) c0
      rw [es]
      rw [show ((s.uint ((1 : Nat) : Int)).1) = 2 from k2] at x0
      generalize ((s.uint 1).2.length.2.length.2.bytes (s.uint 1).2.length.2.length.1) = z at *
      rw [l2] at l3
      have l3' : z.1.length = n2 := by omega
      rw [l1]
      refine ⟨⟨.inr rfl, ⟨n1, rfl, b1⟩, fun k => absurd (show (2 : Int) = 1 from k) (by decide), fun _ => ⟨rfl, rfl⟩⟩, ?_⟩
      rw [← l3'] at x2
      exact x0.trans (x1.trans (x2.trans x3))
    · have : s.cmd = (⟨0, 0, 0, 0, []⟩, (s.uint 1).2.fail 11 s.at_) := by unfold RS.cmd; rw [if_neg k1, if_neg k2]
      rw [this] at hc
      exact absurd hc (fail_code (by decide))
theorem cmds_eats : ∀ (n : Nat) (s : RS) (acc : List G.Command), (RS.cmds n s acc).1.code = 0 → ∃ l, (RS.cmds n s acc).2 = acc ++ l ∧ l.length = n ∧ (∀ c ∈ l, Good c) ∧ Eats s (RS.cmds n s acc).1 (l.flatMap encC)
  | 0, s, acc, _ => ⟨[], by simp [RS.cmds], rfl, by simp, rfl⟩
  | n + 1, s, acc, hc => by
    have h0 := cmds_code hc
    unfold RS.cmds at hc ⊢
    rw [if_pos h0] at hc ⊢
    obtain ⟨g, x⟩ := cmd_eats (cmds_code hc)
    obtain ⟨l, e, hl, hg, y⟩ := cmds_eats n _ _ hc
    refine ⟨s.cmd.1 :: l, by rw [e]; simp, by simp [hl], fun c hm => ?_, ?_⟩
    · rcases List.mem_cons.mp hm with rfl | hm
      · exact g
      · exact hg c hm
    · rw [List.flatMap_cons]; exact x.trans y
theorem arrL_hash (l : List UInt8) (h : l.length = 32) : arrL 32 (hash l) = l := by
  apply List.ext_getElem
  · rw [arrL_len, h]
  · intro i h1 h2
    simp only [arrL, List.getElem_map, List.getElem_range]
    unfold hash cpArr
    rw [if_pos ⟨by omega, h2⟩, getD_lt _ _ _ h2]
theorem good_wrong {d : G.Delta} (h : GoodD d) : wrong d = 0 := by
  obtain ⟨⟨n1, e1, b1⟩, ⟨n2, e2, b2⟩, hall⟩ := h
  have hk : d.commands.all okK = true := by
    rw [List.all_eq_true]; intro c hc
    have := (hall c hc).k
    unfold okK; rcases this with k | k <;> rw [k] <;> rfl
  have hm : ∀ n : Nat, n ≤ 4611686018427387903 → inM (n : Int) = true := fun n hn => by unfold inM; simp; omega
  have ho : d.commands.all okC = true := by
    rw [List.all_eq_true]; intro c hc
    have g := hall c hc
    obtain ⟨t, et, bt⟩ := g.to
    unfold okC
    rw [et, hm t bt]
    rcases g.k with k | k
    · obtain ⟨f, l, ef, bf, el, bl, ed⟩ := g.copy k
      rw [if_pos k, ef, el, hm f bf, hm l bl, ed]; rfl
    · obtain ⟨ef, el⟩ := g.lit k
      rw [if_neg (by omega), ef, el]; rfl
  unfold wrong
  rw [hk, if_neg (by simp), ho, e1, e2, hm _ b1, hm _ b2]; rfl
/-- Bytes that are decoded are the encoding of the result. -/
theorem enc_dec {b : List UInt8} (h : (Dec.s9 b).code = 0) : GoodD (Dec.d b) ∧ enc (Dec.d b) = b ∧ (Dec.d b).commands.length < 4294967296 := by
  have hx : ¬ (Dec.s8 b).1.at_ < b.length := fun k => by
    rw [Dec.a9, if_pos k] at h
    exact absurd h (fail_code (by decide))
  have c8 : (Dec.s8 b).1.code = 0 := by rw [Dec.a9, if_neg hx] at h; exact h
  obtain ⟨l, el, hl, hg, x8⟩ := cmds_eats _ _ _ (by rw [Dec.a8]; exact c8)
  rw [Dec.a8] at el x8
  have c7 : (Dec.s7 b).code = 0 := by rw [← Dec.a8] at c8; exact cmds_code c8
  obtain ⟨c6, x7⟩ := uint_eats (s := Dec.s6 b) (k := 4) (by decide) (by decide) (by show ((Dec.s6 b).uint 4).2.code = 0; rw [Dec.a7]; exact c7)
  obtain ⟨c5, l6, x6⟩ := bytes_eats (s := Dec.s5 b) (n := 32) (by rw [Dec.a6]; exact c6)
  obtain ⟨c4, l5, x5⟩ := bytes_eats (s := Dec.s4 b) (n := 32) (by rw [Dec.a5]; exact c5)
  obtain ⟨c3, n2, e2, b2, x4⟩ := length_eats (s := Dec.s3 b) (by rw [Dec.a4]; exact c4)
  obtain ⟨c2, n1, e1, b1, x3⟩ := length_eats (s := Dec.s2 b) (by rw [Dec.a3]; exact c3)
  have v1 : ((Dec.s1 b).uint 1).1 = 1 := by
    rw [Dec.a2] at c2
    split at c2
    · exact absurd c2 (fail_code (by decide))
    · rename_i x; simpa using x
  have e2' : Dec.s2 b = ((Dec.s1 b).uint 1).2 := by rw [Dec.a2, if_neg (by simpa using v1)]
  obtain ⟨c1, x2⟩ := uint_eats (s := Dec.s1 b) (k := 1) (by decide) (by decide) (by show ((Dec.s1 b).uint 1).2.code = 0; rw [← e2']; exact c2)
  replace x2 : Eats (Dec.s1 b) ((Dec.s1 b).uint 1).2 (be 1 ((Dec.s1 b).uint 1).1) := x2
  rw [v1, ← e2'] at x2
  have x1 : Eats (Dec.s0 b) (Dec.s1 b) magic := by
    have c1' := c1
    rw [← Dec.a1] at c1' ⊢
    show Eats _ ((Dec.s0 b).expect magic 9).2 magic
    replace c1' : ((Dec.s0 b).expect magic 9).2.code = 0 := c1'
    unfold RS.expect at c1' ⊢
    rw [if_neg (by simp [Dec.s0])] at c1' ⊢
    by_cases hp : ((Dec.s0 b).bs.drop (Dec.s0 b).at_).take magic.length = magic.take (((Dec.s0 b).bs.drop (Dec.s0 b).at_).take magic.length).length
    · rw [if_neg (by simpa using hp)] at c1' ⊢
      obtain ⟨_, _, g3, g4⟩ := take_good c1'
      have hX : ((Dec.s0 b).bs.drop (Dec.s0 b).at_).take magic.length = magic := by
        rw [hp, List.take_of_length_le]; simp; omega
      rw [g4]
      conv => rhs; rw [← hX]
      exact eat (by simp; omega)
    · rw [if_pos hp] at c1'
      exact absurd c1' (fail_code (by decide))
  replace x7 : Eats (Dec.s6 b) ((Dec.s6 b).uint 4).2 (be 4 ((Dec.s6 b).uint 4).1) := x7
  rw [Dec.a7] at x7
  rw [Dec.a6] at x6
  rw [Dec.a5] at x5
  rw [Dec.a4] at x4
  rw [Dec.a3] at x3
  have all := x1.trans (x2.trans (x3.trans (x4.trans (x5.trans (x6.trans (x7.trans x8))))))
  unfold Eats at all
  rw [Dec.b8, show b.drop (Dec.s8 b).1.at_ = [] from List.drop_of_length_le (by omega), show (Dec.s0 b).bs.drop (Dec.s0 b).at_ = b from rfl] at all
  rw [Dec.ad]
  rw [List.nil_append] at el
  refine ⟨⟨⟨n1, e1, b1⟩, ⟨n2, e2, b2⟩, by rw [el]; exact hg⟩, ?_, ?_⟩
  · unfold enc encH
    dsimp only
    rw [e1, e2, el, arrL_hash _ (by omega), arrL_hash _ (by omega), hl]
    conv => rhs; rw [all]
    simp
  · rw [el, hl]; exact uint4_lt _
end Go.Proofs.Ytkalbidbhaalmaa
