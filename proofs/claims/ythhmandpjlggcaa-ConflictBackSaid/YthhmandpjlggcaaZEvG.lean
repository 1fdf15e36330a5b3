/- Part of what the laws need: plain words, the walker and its laws, the program's functions. -/
import Derived.Test.YthhmandpjlggcaaZEvD
namespace Go.Proofs.Ythhmandpjlggcaa
open Go.RowKit G
namespace E
variable {S : Nat → Type}
def maxSt : Co → Nat
  | .sl c => maxSt c
  | .st j => j + 1
  | _ => 0
theorem RC_congr {R R' : (i : Nat) → Mem → S i → List Value → Prop} {sz : Nat → Nat} {n : Nat} (h : ∀ j, j < n → R j = R' j) : ∀ {c : Co}, maxSt c ≤ n → RC R sz c = RC R' sz c
  | .int _, _ | .u8, _ | .bo, _ | .str, _ | .a8 _, _ | .ai _ _, _ | .mp _ _, _ => rfl
  | .sl c, hc => by
    have := RC_congr (sz := sz) h (c := c) hc
    show isSl (RC R sz c) (szC sz c) = isSl (RC R' sz c) (szC sz c)
    rw [this]
  | .st j, hc => h j hc
theorem fsR_congr {R R' : (i : Nat) → Mem → S i → List Value → Prop} {sz : Nat → Nat} {n : Nat} (h : ∀ j, j < n → R j = R' j) {m : Mem} : ∀ {cs : List Co} {x : HL S cs} {vs : List Value}, (∀ c ∈ cs, maxSt c ≤ n) → (fsR R sz m cs x vs ↔ fsR R' sz m cs x vs)
  | [], _, _, _ => Iff.rfl
  | c :: cs, x, vs, hc => by
    simp only [fsR, RC_congr h (hc c List.mem_cons_self)]
    exact exists_congr fun v1 => exists_congr fun v2 => and_congr_right fun _ => and_congr_right fun _ => fsR_congr h fun d hd => hc d (List.mem_cons_of_mem _ hd)
theorem rep_RC' {R : (i : Nat) → Mem → S i → List Value → Prop} {sz : Nat → Nat} {n : Nat} (h : ∀ j, j < n → Rep (R j) (sz j)) : ∀ {c : Co}, maxSt c ≤ n → Rep (RC R sz c) (szC sz c)
  | .int k, _ => rep_Num k
  | .u8, _ => rep_U8
  | .bo, _ => rep_Bo
  | .str, _ => rep_Str
  | .sl c, hc => rep_Sl (rep_RC' h hc)
  | .st j, hc => h j hc
  | .a8 n, _ => ⟨fun h _ => h, fun h => by rw [h.1]; simp [szC]; have := h.2; omega, fun h u hu => by rw [h.1] at hu; simp at hu; obtain ⟨i, _, rfl⟩ := hu; rfl, by simp [szC]; omega⟩
  | .ai n k, _ => ⟨fun h _ => h, fun h => by rw [h.1]; simp [szC]; have := h.2; omega, fun h u hu => by rw [h.1] at hu; simp at hu; obtain ⟨i, _, rfl⟩ := hu; rfl, by simp [szC]; omega⟩
  | .mp _ _, _ => ⟨fun h _ => h.elim, fun h => h.elim, fun h => h.elim, by simp [szC]⟩
def szL (sz : Nat → Nat) (cs : List Co) : Nat := (cs.map (szC sz)).sum
theorem fsR_mono {R : (i : Nat) → Mem → S i → List Value → Prop} {sz : Nat → Nat} : ∀ {cs : List Co} {m m' : Mem} {x : HL S cs} {vs : List Value}, (∀ c ∈ cs, Rep (RC R sz c) (szC sz c)) → fsR R sz m cs x vs → Le m m' → fsR R sz m' cs x vs
  | [], _, _, _, _, _, h, _ => h
  | c :: cs, m, m', x, vs, hR, ⟨v1, v2, e, h1, h2⟩, hm => ⟨v1, v2, e, (hR c List.mem_cons_self).mono h1 hm, fsR_mono (fun d hd => hR d (List.mem_cons_of_mem _ hd)) h2 hm⟩
theorem fsR_size {R : (i : Nat) → Mem → S i → List Value → Prop} {sz : Nat → Nat} : ∀ {cs : List Co} {m : Mem} {x : HL S cs} {vs : List Value}, (∀ c ∈ cs, Rep (RC R sz c) (szC sz c)) → fsR R sz m cs x vs → vs.length = szL sz cs
  | [], _, _, _, _, h => by simp only [fsR] at h; subst h; rfl
  | c :: cs, m, x, vs, hR, ⟨v1, v2, e, h1, h2⟩ => by
    rw [e, List.length_append, (hR c List.mem_cons_self).size h1, fsR_size (fun d hd => hR d (List.mem_cons_of_mem _ hd)) h2]
    simp [szL]
theorem fsR_one {R : (i : Nat) → Mem → S i → List Value → Prop} {sz : Nat → Nat} : ∀ {cs : List Co} {m : Mem} {x : HL S cs} {vs : List Value}, (∀ c ∈ cs, Rep (RC R sz c) (szC sz c)) → fsR R sz m cs x vs → ∀ u ∈ vs, u.oneCell' = true
  | [], _, _, _, _, h => by simp only [fsR] at h; subst h; intro u hu; cases hu
  | c :: cs, m, x, vs, hR, ⟨v1, v2, e, h1, h2⟩ => fun u hu => by
    subst e
    rcases List.mem_append.1 hu with hu | hu
    · exact (hR c List.mem_cons_self).one h1 u hu
    · exact fsR_one (fun d hd => hR d (List.mem_cons_of_mem _ hd)) h2 u hu
section
variable (tb : Tb S)
def szS (i : Nat) : Nat := ((tb i).fs.map (szC fun _ => 1)).sum
def Rk : Nat → (i : Nat) → Mem → S i → List Value → Prop
  | 0 => fun _ _ _ _ => False
  | k + 1 => fun i m x cs => fsR (Rk k) (szS tb) m (tb i).fs ((tb i).to x) cs
def RS (i : Nat) : Mem → S i → List Value → Prop := Rk tb (i + 1) i
variable {tb}
theorem szS_eq (h : ∀ i, (tb i).fs.all noSt = true) (i : Nat) : szS tb i = szL (szS tb) (tb i).fs := by
  unfold szS szL
  congr 1
  refine List.map_congr_left fun c hc => ?_
  have := List.all_eq_true.1 (h i) c hc
  cases c <;> first | rfl | (cases this)
theorem Rk_eq (hm : ∀ i, ∀ c ∈ (tb i).fs, maxSt c ≤ i) : ∀ (j k : Nat), j < k → Rk tb k j = RS tb j := fun j => by
  induction j using Nat.strongRecOn with
  | _ j ih =>
    intro k hk
    cases k with
    | zero => omega
    | succ k =>
      funext m x cs
      refine propext ?_
      show fsR (Rk tb k) _ _ _ _ _ ↔ fsR (Rk tb j) _ _ _ _ _
      refine fsR_congr (n := j) (fun i hi => ?_) (hm j)
      rw [ih i hi k (by omega), ih i hi j hi]
theorem RS_iff (hm : ∀ i, ∀ c ∈ (tb i).fs, maxSt c ≤ i) (i : Nat) (m : Mem) (x : S i) (cs : List Value) : RS tb i m x cs ↔ fsR (RS tb) (szS tb) m (tb i).fs ((tb i).to x) cs :=
  fsR_congr (n := i) (fun j hj => Rk_eq hm j i hj) (hm i)
theorem RS_rep (hf : ∀ i, (tb i).fs.all noSt = true) (hm : ∀ i, ∀ c ∈ (tb i).fs, maxSt c ≤ i) (hp : ∀ i, (tb i).fs ≠ []) (i : Nat) : Rep (RS tb i) (szS tb i) := by
  induction i using Nat.strongRecOn with
  | _ i ih =>
    have hR : ∀ c ∈ (tb i).fs, Rep (RC (RS tb) (szS tb) c) (szC (szS tb) c) := fun c hc => rep_RC' ih (hm i c hc)
    refine ⟨fun h hle => (RS_iff hm i _ _ _).2 (fsR_mono hR ((RS_iff hm i _ _ _).1 h) hle), fun h => ?_, fun h => fsR_one hR ((RS_iff hm i _ _ _).1 h), ?_⟩
    · rw [szS_eq hf]; exact fsR_size hR ((RS_iff hm i _ _ _).1 h)
    · rw [szS_eq hf]
      cases hc : (tb i).fs with
      | nil => exact absurd hc (hp i)
      | cons c cs =>
        have := (hR c (by rw [hc]; exact List.mem_cons_self)).pos
        simp only [szL, List.map_cons, List.sum_cons]
        omega
def GB (b : Nat) (m : Mem) : Prop := m.ok b 0 ∧ ∃ v : Int, m.w.cell? ⟨b, 0, none⟩ = some (.int .i64 v)
theorem GB.mono {b : Nat} {m m' : Mem} (h : GB b m) (k : Le m m') : GB b m' := by
  obtain ⟨h1, v, h2⟩ := h
  obtain ⟨k1, k2⟩ := k.same b 0 h1
  exact ⟨k1, v, k2.trans h2⟩
def tbOK (rg : Nat → Option RG) (B : Mem → Prop) (Bm : ∀ {m m' : Mem}, B m → Le m m' → B m') (hf : ∀ i, (tb i).fs.all noSt = true) (hm : ∀ i, ∀ c ∈ (tb i).fs, maxSt c ≤ i) (hp : ∀ i, (tb i).fs ≠ []) (ho : ∀ i h, (tb i).to ((tb i).of h) = h) : TbOK tb :=
  { R := RS tb, sz := szS tb, rep := RS_rep hf hm hp, spec := RS_iff hm, to_of := ho, flat := hf, rg := rg, B := B, Bm := Bm }
end
def elOk (tb : Tb S) (l : List (Nat × TI S)) : Bool := l.all fun p => match p.2.d, p.2.co with
  | .slice e, .sl c => (match look e l with | some ei => Nat.beq ei.size (szC (szS tb) c) && Nat.ble 1 ei.bytes | none => false)
  | _, _ => true
def mpOk (l : List (Nat × TI S)) : Bool := l.all fun p => match p.2.d, p.2.co with
  | .map kt _, .mp (.int k) _ => (match look kt l with | some ki => (match ki.d with | .int k' => decide (k' = k) | _ => false) | none => false)
  | .map kt _, .mp .str _ => (match look kt l with | some ki => (match ki.d with | .str => true | _ => false) | none => false)
  | _, _ => true
def stKeys (l : List (Nat × TI S)) : List (Nat × Nat) := l.filterMap fun p => match p.2.d, p.2.co with
  | .map kt _, .mp (.st i) _ => some (kt, i)
  | _, _ => none
def hlVs : (cs : List Co) → HL S cs → List Value
  | [], _ => []
  | .int k :: cs, h => .int k h.1 :: hlVs cs h.2
  | _ :: _, _ => []
section
variable {tb : Tb S} {K : TbOK tb} {P : Program}
def allInt (cs : List Co) : Bool := cs.all fun c => match c with | .int .u8 => false | .int _ => true | _ => false
theorem allInt_cons {c : Co} {cs : List Co} (h : allInt (c :: cs) = true) : (∃ k, c = .int k) ∧ allInt cs = true := by
  unfold allInt at h
  rw [List.all_cons, Bool.and_eq_true] at h
  refine ⟨?_, h.2⟩
  have h1 := h.1
  split at h1
  · cases h1
  · exact ⟨_, rfl⟩
  · cases h1
theorem hl_ints {R : (i : Nat) → Mem → S i → List Value → Prop} {sz : Nat → Nat} {m : Mem} : ∀ {cs : List Co} {h : HL S cs} {vs : List Value}, allInt cs = true → fsR R sz m cs h vs → vs = hlVs cs h
  | [], _, _, _, hf => hf
  | c :: cs, h, vs, ha, ⟨v1, v2, e, h1, h2⟩ => by
    obtain ⟨⟨k, rfl⟩, ha'⟩ := allInt_cons ha
    have h3 : v1 = [.int k h.1] := h1
    have h4 := hl_ints ha' h2
    rw [e, h3, h4]; rfl
theorem int_iff (k : IntKind) (x y : Int) : intEq x y = true ↔ Value.int k x = Value.int k y := by simp [intEq]
theorem strEq_iff (x y : List UInt8) : strEq x y = true ↔ x = y := by simp [strEq]
theorem hlEq_iff : ∀ {cs : List Co} {a b : HL S cs}, allInt cs = true → (hlEq cs a b = true ↔ hlVs cs a = hlVs cs b)
  | [], _, _, _ => by simp [hlEq, hlVs]
  | c :: cs, a, b, ha => by
    obtain ⟨⟨k, rfl⟩, ha'⟩ := allInt_cons ha
    have ih := hlEq_iff (a := a.2) (b := b.2) ha'
    have h1 : hlEq (.int k :: cs) a b = (intEq a.1 b.1 && hlEq cs a.2 b.2) := rfl
    have h2 : ∀ x : HL S (.int k :: cs), hlVs (.int k :: cs) x = .int k x.1 :: hlVs cs x.2 := fun _ => rfl
    rw [h1, h2, h2, Bool.and_eq_true, List.cons.injEq]
    exact and_congr (int_iff k a.1 b.1) ih
theorem same_ints : ∀ {cs : List Co} {h : HL S cs}, (((hlVs cs h).zip (hlVs cs h)).all fun p => Instr.sameBits 9999 p.1 p.2) = true
  | [], _ => rfl
  | c :: cs, h => by
    cases c <;> first | rfl | skip
    simp only [hlVs, List.zip_cons_cons, List.all_cons, Bool.and_eq_true]
    refine ⟨?_, same_ints⟩
    unfold Instr.sameBits
    simp only [beq_self_eq_true, Bool.and_self]
    exact beq_self_eq_true (α := Int) h.1
theorem key_st {kt : TypeId} {i : Nat} {fs : Array Field} (hk : keyCo tb (.st i) = true) (hu : P.underlying kt = some (.struct fs)) (hc : ∀ (w : World) (em : Bool) (x : S i), (Instr.checkKey em 10000 kt (.agg (hlVs (tb i).fs ((tb i).to x)).toArray)).run P w = .ok () w)
    (hq : ∀ (w : World) (x y : S i), (Op.equal kt (.agg (hlVs (tb i).fs ((tb i).to x)).toArray) (.agg (hlVs (tb i).fs ((tb i).to y)).toArray)).run P w = .ok (hlEq (tb i).fs ((tb i).to x) ((tb i).to y)) w) :
    KeyOK P kt (fun x v => ∃ m, keyR K (.st i) m x v) (keq tb (.st i)) := by
  have ha : allInt (tb i).fs = true := hk
  have key : ∀ {x : S i} {v : Value}, (∃ m, keyR K (.st i) m x v) → v = .agg (hlVs (tb i).fs ((tb i).to x)).toArray := fun {x v} ⟨m, cs, e, h⟩ => by
    rw [e, hl_ints ha ((K.spec i m x cs).1 h)]
  refine key_ask hu (fun w em x v h => by rw [key h]; exact hc w em x) (fun w x v h => ?_) (fun x y v w h1 h2 => ?_) (fun w x y v u h1 h2 => by rw [key h1, key h2]; exact hq w x y)
  · rw [key h]
    have : Instr.sameBits 10000 (.agg (hlVs (tb i).fs ((tb i).to x)).toArray) (.agg (hlVs (tb i).fs ((tb i).to x)).toArray) = true := by
      unfold Instr.sameBits
      simp only [beq_self_eq_true, Bool.true_and]
      exact same_ints
    unfold Instr.keyThatStays
    rw [if_pos this]; rfl
  · show hlEq (tb i).fs _ _ = true ↔ _
    rw [hlEq_iff ha, key h1, key h2]
    simp
theorem equal_of_bin {t : TypeId} {xs ys : Array Value} {d : Bool} {w : World} (h : (binOp .eql t (.agg xs) (.agg ys)).run P w = .ok (.bool d) w) : (Op.equal t (.agg xs) (.agg ys)).run P w = .ok d w := by
  have h2 : binOp .eql t (.agg xs) (.agg ys) = (do pure (.bool (← Op.equal t (.agg xs) (.agg ys)))) := rfl
  rw [h2, Sem.run_bind] at h
  cases h3 : (Op.equal t (.agg xs) (.agg ys)).run P w with
  | ok v w' => rw [h3] at h; simp only [Result.andThen_ok, Sem.run_pure, Result.ok.injEq, Value.bool.injEq] at h; obtain ⟨rfl, rfl⟩ := h; rfl
  | _ => rw [h3] at h; cases h
theorem key_int {kt : TypeId} {k : IntKind} (hu : P.underlying kt = some (.int k)) : KeyOK P kt (fun x v => ∃ m, keyR K (.int k) m x v) (keq tb (.int k)) := by
  have key : ∀ {x : Int} {v : Value}, (∃ m, keyR K (.int k) m x v) → v = .int k x := fun {x v} ⟨m, h⟩ => by
    have h : [v] = [.int k x] := h
    simpa using h
  refine key_now hu (fun x v h => by rw [key h]; exact rfl) fun x y v w h1 h2 => ?_
  rw [key h1, key h2]
  exact int_iff k x y
theorem str_inj {x y : List UInt8} (h : Proofs.Ythhmandpjlggcaa.str x = Proofs.Ythhmandpjlggcaa.str y) : x = y := by
  have := str_beq x y
  unfold Proofs.Ythhmandpjlggcaa.str at h
  by_cases e : x = y
  · exact e
  · rw [decide_eq_false e] at this
    have h2 : ((⟨x.toArray⟩ : ByteArray).toList == (⟨y.toArray⟩ : ByteArray).toList) = true := by simp_all
    rw [h2] at this; cases this
theorem key_str {kt : TypeId} (hu : P.underlying kt = some .string) : KeyOK P kt (fun x v => ∃ m, keyR K .str m x v) (keq tb .str) := by
  have key : ∀ {x : List UInt8} {v : Value}, (∃ m, keyR K .str m x v) → v = .string (Proofs.Ythhmandpjlggcaa.str x) := fun {x v} ⟨m, h⟩ => by
    have h : [v] = [.string (Proofs.Ythhmandpjlggcaa.str x)] := h
    simpa using h
  refine key_now hu (fun x v h => by rw [key h]; exact trivial) fun x y v w h1 h2 => ?_
  rw [key h1, key h2]
  exact (strEq_iff x y).trans ⟨fun h => by rw [h], fun h => str_inj (by simpa using h)⟩
end
theorem ttOK {tb : Tb S} {K : TbOK tb} {P : Program} {l : List (Nat × TI S)} (hK : K.sz = szS tb) (h1 : ∀ p ∈ l, TyOK P p.1 p.2) (h2 : elOk tb l = true) (h3 : ∀ p ∈ (l.filter fun p => p.2.eq).map fun p => (p.1, p.2.zero), EqT K P p.1 p.2)
    (h4 : mpOk l = true) (h5 : ∀ p ∈ stKeys l, keyCo tb (.st p.2) = true → KeyOK P p.1 (fun x v => ∃ m, keyR K (.st p.2) m x v) (keq tb (.st p.2))) : TTOK P K (fun t => look t l) := by
  refine ⟨fun t i h he => h3 (t, i.zero) (List.mem_map.2 ⟨(t, i), List.mem_filter.2 ⟨look_mem h, he⟩, rfl⟩), fun t i h => h1 _ (look_mem h), fun t i e c h hd hc => ?_, fun t i kt et kc vc h hd hc hk => ?_⟩
  · have := List.all_eq_true.1 h2 _ (look_mem h)
    simp only [hd, hc] at this
    split at this
    · rename_i ei hei
      simp only [Bool.and_eq_true] at this
      exact ⟨ei, hei, by rw [Nat.eq_of_beq_eq_true this.1, zK, hK], Nat.le_of_ble_eq_true this.2⟩
    · cases this
  · have hm := List.all_eq_true.1 h4 _ (look_mem h)
    simp only [hd, hc] at hm
    cases kc with
    | int k =>
      simp only at hm
      split at hm
      · rename_i ki hki
        split at hm
        · rename_i k' hd'
          have htd := (h1 _ (look_mem hki)).td
          simp only [hd'] at htd
          rw [of_decide_eq_true hm] at htd
          exact key_int htd
        · cases hm
      · cases hm
    | str =>
      simp only at hm
      split at hm
      · rename_i ki hki
        split at hm
        · rename_i hd'
          have htd := (h1 _ (look_mem hki)).td
          simp only [hd'] at htd
          exact key_str htd
        · cases hm
      · cases hm
    | st i' => exact h5 (kt, i') (List.mem_filterMap.2 ⟨(t, i), look_mem h, by simp only [hd, hc]⟩) hk
    | u8 => cases hk
    | bo => cases hk
    | sl c => cases hk
    | a8 n => cases hk
    | ai n k => cases hk
    | mp a b => cases hk
theorem all_nil {α : Type _} {p : α → Prop} : ∀ x ∈ ([] : List α), p x := fun _ h => nomatch h
theorem all_cons {α : Type _} {p : α → Prop} {a : α} {l : List α} (h : p a) (t : ∀ x ∈ l, p x) : ∀ x ∈ a :: l, p x := fun x hx => by
  rcases List.mem_cons.1 hx with rfl | hx
  · exact h
  · exact t x hx
section
variable {k : IntKind} {z0 : Int} {u0 : UInt8} {b0 : Bool} {z vs : List (CV S)} {tb : Tb S} {K : TbOK tb} {g : GG S} {m : Mem}
theorem kind_nil (h : kindOk ([] : List (CV S)) vs = true) : vs = [] := by
  cases vs with
  | nil => rfl
  | cons => simp [kindOk] at h
theorem kind_int (h : kindOk (.int k z0 :: z) vs = true) : ∃ x v', vs = .int k x :: v' ∧ kindOk z v' = true := by
  cases vs with
  | nil => simp [kindOk] at h
  | cons v vs =>
    cases v <;> simp only [kindOk, Bool.false_eq_true] at h
    simp only [Bool.and_eq_true, decide_eq_true_eq] at h
    obtain ⟨rfl, h⟩ := h
    exact ⟨_, _, rfl, h⟩
theorem kind_u8 (h : kindOk (.u8 u0 :: z) vs = true) : ∃ x v', vs = .u8 x :: v' ∧ kindOk z v' = true := by
  cases vs with
  | nil => simp [kindOk] at h
  | cons v vs =>
    cases v <;> simp only [kindOk, Bool.false_eq_true] at h
    exact ⟨_, _, rfl, h⟩
theorem kind_bo (h : kindOk (.tt b0 :: z) vs = true) : (∃ b p d hb v', vs = .bo b p d hb :: v' ∧ kindOk z v' = true) ∨ ∃ b v', vs = .tt b :: v' ∧ kindOk z v' = true := by
  cases vs with
  | nil => simp [kindOk] at h
  | cons v vs =>
    cases v <;> simp only [kindOk, Bool.false_eq_true] at h
    · exact .inl ⟨_, _, _, _, _, rfl, h⟩
    · exact .inr ⟨_, _, rfl, h⟩
theorem cvs_int {x : Int} {xs : List Value} (h : cvsR K g m (.int k x :: vs) xs) : ∃ ys, xs = .int k x :: ys ∧ cvsR K g m vs ys := by
  obtain ⟨c1, c2, rfl, h1, h2⟩ := h
  simp only [cvR] at h1; subst h1; exact ⟨c2, rfl, h2⟩
theorem cvs_u8 {x : UInt8} {xs : List Value} (h : cvsR K g m (.u8 x :: vs) xs) : ∃ ys, xs = .int .u8 (x.toNat : Int) :: ys ∧ cvsR K g m vs ys := by
  obtain ⟨c1, c2, rfl, h1, h2⟩ := h
  simp only [cvR] at h1; subst h1; exact ⟨c2, rfl, h2⟩
theorem cvs_bo {b : Bool} {p : Prop} {d : Decidable p} {hb : b = true ↔ p} {xs : List Value} (h : cvsR K g m (.bo b p d hb :: vs) xs) : ∃ ys, xs = .bool b :: ys ∧ cvsR K g m vs ys := by
  obtain ⟨c1, c2, rfl, h1, h2⟩ := h
  simp only [cvR] at h1; subst h1; exact ⟨c2, rfl, h2⟩
theorem cvs_tt {b : Bool} {xs : List Value} (h : cvsR K g m (.tt b :: vs) xs) : ∃ ys, xs = .bool b :: ys ∧ cvsR K g m vs ys := by
  obtain ⟨c1, c2, rfl, h1, h2⟩ := h
  simp only [cvR] at h1; subst h1; exact ⟨c2, rfl, h2⟩
end
end E
end Go.Proofs.Ythhmandpjlggcaa
