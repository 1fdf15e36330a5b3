/- Part of what the laws need: plain words, the walker and its laws, the program's functions. -/
import Derived.Test.YtekpafdhgkocaaaGreatZEvD
namespace Go.Proofs.YtekpafdhgkocaaaGreat
open Go.RowKit G
namespace E
variable {S : Nat → Type}
def qG : Co → Nat
 | .sl c => qG c
 | .st j => j + 1
 | _ => 0
theorem A9 {R R' : (i : Nat) → Mem → S i → List Value → Prop} {sz : Nat → Nat} {n : Nat} (h : ∀ j, j < n → R j = R' j) : ∀ {c : Co}, qG c ≤ n → RC R sz c = RC R' sz c
 | .int _, _ | .u8, _ | .bo, _ | .str, _ | .a8 _, _ | .ai _ _, _ | .mp _ _, _ => rfl
 | .sl c, hc => by
   have := A9 (sz := sz) h (c := c) hc
   show Dg (RC R sz c) (wo sz c) = Dg (RC R' sz c) (wo sz c)
   rw [this]
 | .st j, hc => h j hc
theorem uo {R R' : (i : Nat) → Mem → S i → List Value → Prop} {sz : Nat → Nat} {n : Nat} (h : ∀ j, j < n → R j = R' j) {m : Mem} : ∀ {cs : List Co} {x : HL S cs} {vs : List Value}, (∀ c ∈ cs, qG c ≤ n) → (BI R sz m cs x vs ↔ BI R' sz m cs x vs)
 | [], _, _, _ => Iff.rfl
 | c :: cs, x, vs, hc => by
   simp only [BI, A9 h (hc c List.mem_cons_self)]
   exact exists_congr fun v1 => exists_congr fun v2 => and_congr_right fun _ => and_congr_right fun _ => uo h fun d hd => hc d (List.mem_cons_of_mem _ hd)
theorem EC {R : (i : Nat) → Mem → S i → List Value → Prop} {sz : Nat → Nat} {n : Nat} (h : ∀ j, j < n → lB (R j) (sz j)) : ∀ {c : Co}, qG c ≤ n → lB (RC R sz c) (wo sz c)
 | .int k, _ => EB k
 | .u8, _ => DB
 | .bo, _ => Ik
 | .str, _ => ED
 | .sl c, hc => DA (EC h hc)
 | .st j, hc => h j hc
 | .a8 n, _ => ⟨fun h _ => h, fun h => by rw [h.1]; simp [wo]; have := h.2; omega, fun h u hu => by rw [h.1] at hu; simp at hu; obtain ⟨i, _, rfl⟩ := hu; rfl, by simp [wo]; omega⟩
 | .ai n k, _ => ⟨fun h _ => h, fun h => by rw [h.1]; simp [wo]; have := h.2; omega, fun h u hu => by rw [h.1] at hu; simp at hu; obtain ⟨i, _, rfl⟩ := hu; rfl, by simp [wo]; omega⟩
 | .mp _ _, _ => ⟨fun h _ => h.elim, fun h => h.elim, fun h => h.elim, by simp [wo]⟩
def O0 (sz : Nat → Nat) (cs : List Co) : Nat := (cs.map (wo sz)).sum
theorem BJ {R : (i : Nat) → Mem → S i → List Value → Prop} {sz : Nat → Nat} : ∀ {cs : List Co} {m m' : Mem} {x : HL S cs} {vs : List Value}, (∀ c ∈ cs, lB (RC R sz c) (wo sz c)) → BI R sz m cs x vs → Le m m' → BI R sz m' cs x vs
 | [], _, _, _, _, _, h, _ => h
 | c :: cs, m, m', x, vs, hR, ⟨v1, v2, e, h1, h2⟩, hm => ⟨v1, v2, e, (hR c List.mem_cons_self).mono h1 hm, BJ (fun d hd => hR d (List.mem_cons_of_mem _ hd)) h2 hm⟩
theorem BK {R : (i : Nat) → Mem → S i → List Value → Prop} {sz : Nat → Nat} : ∀ {cs : List Co} {m : Mem} {x : HL S cs} {vs : List Value}, (∀ c ∈ cs, lB (RC R sz c) (wo sz c)) → BI R sz m cs x vs → vs.length = O0 sz cs
 | [], _, _, _, _, h => by simp only [BI] at h; subst h; rfl
 | c :: cs, m, x, vs, hR, ⟨v1, v2, e, h1, h2⟩ => by
   rw [e, List.length_append, (hR c List.mem_cons_self).size h1, BK (fun d hd => hR d (List.mem_cons_of_mem _ hd)) h2]
   simp [O0]
theorem Eh {R : (i : Nat) → Mem → S i → List Value → Prop} {sz : Nat → Nat} : ∀ {cs : List Co} {m : Mem} {x : HL S cs} {vs : List Value}, (∀ c ∈ cs, lB (RC R sz c) (wo sz c)) → BI R sz m cs x vs → ∀ u ∈ vs, u.oneCell' = true
 | [], _, _, _, _, h => by simp only [BI] at h; subst h; intro u hu; cases hu
 | c :: cs, m, x, vs, hR, ⟨v1, v2, e, h1, h2⟩ => fun u hu => by
   subst e
   rcases List.mem_append.1 hu with hu | hu
   · exact (hR c List.mem_cons_self).one h1 u hu
   · exact Eh (fun d hd => hR d (List.mem_cons_of_mem _ hd)) h2 u hu
section
variable (tb : Tb S)
def IZ (i : Nat) : Nat := ((tb i).fs.map (wo fun _ => 1)).sum
def Rk : Nat → (i : Nat) → Mem → S i → List Value → Prop
 | 0 => fun _ _ _ _ => False
 | k + 1 => fun i m x cs => BI (Rk k) (IZ tb) m (tb i).fs ((tb i).to x) cs
def RS (i : Nat) : Mem → S i → List Value → Prop := Rk tb (i + 1) i
variable {tb}
theorem I0 (h : ∀ i, (tb i).fs.all Aq = true) (i : Nat) : IZ tb i = O0 (IZ tb) (tb i).fs := by
 unfold IZ O0
 congr 1
 refine List.map_congr_left fun c hc => ?_
 have := List.all_eq_true.1 (h i) c hc
 cases c <;> first | rfl | (cases this)
theorem N1 (hm : ∀ i, ∀ c ∈ (tb i).fs, qG c ≤ i) : ∀ (j k : Nat), j < k → Rk tb k j = RS tb j := fun j => by
 induction j using Nat.strongRecOn with
 | _ j ih =>
   intro k hk
   cases k with
   | zero => omega
   | succ k =>
     funext m x cs
     refine propext ?_
     show BI (Rk tb k) _ _ _ _ _ ↔ BI (Rk tb j) _ _ _ _ _
     refine uo (n := j) (fun i hi => ?_) (hm j)
     rw [ih i hi k (by omega), ih i hi j hi]
theorem wA (hm : ∀ i, ∀ c ∈ (tb i).fs, qG c ≤ i) (i : Nat) (m : Mem) (x : S i) (cs : List Value) : RS tb i m x cs ↔ BI (RS tb) (IZ tb) m (tb i).fs ((tb i).to x) cs :=
 uo (n := i) (fun j hj => N1 hm j i hj) (hm i)
theorem LX (hf : ∀ i, (tb i).fs.all Aq = true) (hm : ∀ i, ∀ c ∈ (tb i).fs, qG c ≤ i) (hp : ∀ i, (tb i).fs ≠ []) (i : Nat) : lB (RS tb i) (IZ tb i) := by
 induction i using Nat.strongRecOn with
 | _ i ih =>
   have hR : ∀ c ∈ (tb i).fs, lB (RC (RS tb) (IZ tb) c) (wo (IZ tb) c) := fun c hc => EC ih (hm i c hc)
   refine ⟨fun h hle => (wA hm i _ _ _).2 (BJ hR ((wA hm i _ _ _).1 h) hle), fun h => ?_, fun h => Eh hR ((wA hm i _ _ _).1 h), ?_⟩
   · rw [I0 hf]; exact BK hR ((wA hm i _ _ _).1 h)
   · rw [I0 hf]
     cases hc : (tb i).fs with
     | nil => exact absurd hc (hp i)
     | cons c cs =>
       have := (hR c (by rw [hc]; exact List.mem_cons_self)).pos
       simp only [O0, List.map_cons, List.sum_cons]
       omega
def GB (b : Nat) (m : Mem) : Prop := m.ok b 0 ∧ ∃ v : Int, m.w.cell? ⟨b, 0, none⟩ = some (.int .i64 v)
theorem GB.mono {b : Nat} {m m' : Mem} (h : GB b m) (k : Le m m') : GB b m' := by
 obtain ⟨h1, v, h2⟩ := h
 obtain ⟨k1, k2⟩ := k.same b 0 h1
 exact ⟨k1, v, k2.trans h2⟩
def QH (rg : Nat → Option RG) (B : Mem → Prop) (Bm : ∀ {m m' : Mem}, B m → Le m m' → B m') (hf : ∀ i, (tb i).fs.all Aq = true) (hm : ∀ i, ∀ c ∈ (tb i).fs, qG c ≤ i) (hp : ∀ i, (tb i).fs ≠ []) (ho : ∀ i h, (tb i).to ((tb i).of h) = h) : cV tb :=
 { R := RS tb, sz := IZ tb, rep := LX hf hm hp, spec := wA hm, LH := ho, flat := hf, rg := rg, B := B, Bm := Bm }
end
def Qo (tb : Tb S) (l : List (Nat × TI S)) : Bool := l.all fun p => match p.2.d, p.2.co with
 | .slice e, .sl c => (match look e l with | some ei => Nat.beq ei.size (wo (IZ tb) c) && Nat.ble 1 ei.bytes | none => false)
 | _, _ => true
def Qw (l : List (Nat × TI S)) : Bool := l.all fun p => match p.2.d, p.2.co with
 | .map kt _, .mp (.int k) _ => (match look kt l with | some ki => (match ki.d with | .int k' => decide (k' = k) | _ => false) | none => false)
 | .map kt _, .mp .str _ => (match look kt l with | some ki => (match ki.d with | .str => true | _ => false) | none => false)
 | _, _ => true
def IP (l : List (Nat × TI S)) : List (Nat × Nat) := l.filterMap fun p => match p.2.d, p.2.co with
 | .map kt _, .mp (.st i) _ => some (kt, i)
 | _, _ => none
section
variable {tb : Tb S} {K : cV tb} {P : Program}
theorem JQ (k : IntKind) (x y : Int) : qE x y = true ↔ Value.int k x = Value.int k y := by simp [qE]
theorem Gk (x y : List UInt8) : IW x y = true ↔ x = y := by simp [IW]
theorem JS {kt : TypeId} {k : IntKind} (hu : P.underlying kt = some (.int k)) : dY P kt (fun x v => ∃ m, cd K (.int k) m x v) (fM tb (.int k)) := by
 have key : ∀ {x : Int} {v : Value}, (∃ m, cd K (.int k) m x v) → v = .int k x := fun {x v} ⟨m, h⟩ => by
  have h : [v] = [.int k x] := h
  simpa using h
 refine Ep hu (fun x v h => by rw [key h]; exact rfl) fun x y v w h1 h2 => ?_
 rw [key h1, key h2]
 exact JQ k x y
theorem str_inj {x y : List UInt8} (h : Proofs.YtekpafdhgkocaaaGreat.str x = Proofs.YtekpafdhgkocaaaGreat.str y) : x = y := by
 have := KQ x y
 unfold Proofs.YtekpafdhgkocaaaGreat.str at h
 by_cases e : x = y
 · exact e
 · rw [decide_eq_false e] at this
   have h2 : ((⟨x.toArray⟩ : ByteArray).toList == (⟨y.toArray⟩ : ByteArray).toList) = true := by simp_all
   rw [h2] at this; cases this
theorem JT {kt : TypeId} (hu : P.underlying kt = some .string) : dY P kt (fun x v => ∃ m, cd K .str m x v) (fM tb .str) := by
 have key : ∀ {x : List UInt8} {v : Value}, (∃ m, cd K .str m x v) → v = .string (Proofs.YtekpafdhgkocaaaGreat.str x) := fun {x v} ⟨m, h⟩ => by
  have h : [v] = [.string (Proofs.YtekpafdhgkocaaaGreat.str x)] := h
  simpa using h
 refine Ep hu (fun x v h => by rw [key h]; exact trivial) fun x y v w h1 h2 => ?_
 rw [key h1, key h2]
 exact (Gk x y).trans ⟨fun h => by rw [h], fun h => str_inj (by simpa using h)⟩
end
theorem QI {tb : Tb S} {K : cV tb} {P : Program} {l : List (Nat × TI S)} (hK : K.sz = IZ tb) (h1 : ∀ p ∈ l, aV P p.1 p.2) (h2 : Qo tb l = true) (h3 : ∀ p ∈ (l.filter fun p => p.2.eq).map fun p => (p.1, p.2.zero), Jf K P p.1 p.2)
 (h4 : Qw l = true) (h5 : ∀ p ∈ IP l, xm tb (.st p.2) = true → dY P p.1 (fun x v => ∃ m, cd K (.st p.2) m x v) (fM tb (.st p.2))) : cn P K (fun t => look t l) := by
 refine ⟨fun t i h he => h3 (t, i.zero) (List.mem_map.2 ⟨(t, i), List.mem_filter.2 ⟨eA h, he⟩, rfl⟩), fun t i h => h1 _ (eA h), fun t i e c h hd hc => ?_, fun t i kt et kc vc h hd hc hk => ?_⟩
 · have := List.all_eq_true.1 h2 _ (eA h)
   simp only [hd, hc] at this
   split at this
   · rename_i ei hei
     simp only [Bool.and_eq_true] at this
     exact ⟨ei, hei, by rw [Nat.eq_of_beq_eq_true this.1, zK, hK], Nat.le_of_ble_eq_true this.2⟩
   · cases this
 · have hm := List.all_eq_true.1 h4 _ (eA h)
   simp only [hd, hc] at hm
   cases kc with
   | int k =>
     simp only at hm
     split at hm
     · rename_i ki hki
       split at hm
       · rename_i k' hd'
         have htd := (h1 _ (eA hki)).td
         simp only [hd'] at htd
         rw [of_decide_eq_true hm] at htd
         exact JS htd
       · cases hm
     · cases hm
   | str =>
     simp only at hm
     split at hm
     · rename_i ki hki
       split at hm
       · rename_i hd'
         have htd := (h1 _ (eA hki)).td
         simp only [hd'] at htd
         exact JT htd
       · cases hm
     · cases hm
   | st i' => exact h5 (kt, i') (List.mem_filterMap.2 ⟨(t, i), eA h, by simp only [hd, hc]⟩) hk
   | u8 => cases hk
   | bo => cases hk
   | sl c => cases hk
   | a8 n => cases hk
   | ai n k => cases hk
   | mp a b => cases hk
theorem all_nil {α : Type _} {p : α → Prop} : ∀ x ∈ ([] : List α), p x := fun _ h => nomatch h
theorem all_cons {α : Type _} {p : α → Prop} {a : α} {l : List α} (h : p a) (t : ∀ x ∈ l, p x) : ∀ x ∈ a :: l, p x := fun x hx => by
 rcases List.mem_cons.1 hx with rfl | hx
 · exact h
 · exact t x hx
section
variable {k : IntKind} {z0 : Int} {u0 : UInt8} {b0 : Bool} {z vs : List (CV S)} {tb : Tb S} {K : cV tb} {g : GG S} {m : Mem}
theorem ez (h : kindOk ([] : List (CV S)) vs = true) : vs = [] := by
 cases vs with
 | nil => rfl
 | cons => simp [kindOk] at h
theorem bB (h : kindOk (.int k z0 :: z) vs = true) : ∃ x v', vs = .int k x :: v' ∧ kindOk z v' = true := by
 cases vs with
 | nil => simp [kindOk] at h
 | cons v vs =>
   cases v <;> simp only [kindOk, Bool.false_eq_true] at h
   simp only [Bool.and_eq_true, decide_eq_true_eq] at h
   obtain ⟨rfl, h⟩ := h
   exact ⟨_, _, rfl, h⟩
theorem wg (h : kindOk (.u8 u0 :: z) vs = true) : ∃ x v', vs = .u8 x :: v' ∧ kindOk z v' = true := by
 cases vs with
 | nil => simp [kindOk] at h
 | cons v vs =>
   cases v <;> simp only [kindOk, Bool.false_eq_true] at h
   exact ⟨_, _, rfl, h⟩
theorem we (h : kindOk (.tt b0 :: z) vs = true) : (∃ b p d hb v', vs = .bo b p d hb :: v' ∧ kindOk z v' = true) ∨ ∃ b v', vs = .tt b :: v' ∧ kindOk z v' = true := by
 cases vs with
 | nil => simp [kindOk] at h
 | cons v vs =>
   cases v <;> simp only [kindOk, Bool.false_eq_true] at h
   · exact .inl ⟨_, _, _, _, _, rfl, h⟩
   · exact .inr ⟨_, _, rfl, h⟩
theorem bV {x : Int} {xs : List Value} (h : bq K g m (.int k x :: vs) xs) : ∃ ys, xs = .int k x :: ys ∧ bq K g m vs ys := by
 obtain ⟨c1, c2, rfl, h1, h2⟩ := h
 simp only [au] at h1; subst h1; exact ⟨c2, rfl, h2⟩
theorem Ae {x : UInt8} {xs : List Value} (h : bq K g m (.u8 x :: vs) xs) : ∃ ys, xs = .int .u8 (x.toNat : Int) :: ys ∧ bq K g m vs ys := by
 obtain ⟨c1, c2, rfl, h1, h2⟩ := h
 simp only [au] at h1; subst h1; exact ⟨c2, rfl, h2⟩
theorem z9 {b : Bool} {p : Prop} {d : Decidable p} {hb : b = true ↔ p} {xs : List Value} (h : bq K g m (.bo b p d hb :: vs) xs) : ∃ ys, xs = .bool b :: ys ∧ bq K g m vs ys := by
 obtain ⟨c1, c2, rfl, h1, h2⟩ := h
 simp only [au] at h1; subst h1; exact ⟨c2, rfl, h2⟩
theorem Ad {b : Bool} {xs : List Value} (h : bq K g m (.tt b :: vs) xs) : ∃ ys, xs = .bool b :: ys ∧ bq K g m vs ys := by
 obtain ⟨c1, c2, rfl, h1, h2⟩ := h
 simp only [au] at h1; subst h1; exact ⟨c2, rfl, h2⟩
end
section
variable {S : Nat → Type} {P : Program} {tb : Tb S} {K : cV tb} {tt : TypeId → Option (TI S)} {Φ : List (bO S)} {fa : FA S}
def bd (f : Func) : Code := match f.body with | some c => c | none => .skip
def Ql (fn : Func) (f k : Nat) : Bool := Nat.ble f 999999 && Nat.beq k f && eJ ((cw (bd fn)).map fun q => oH q.2.1) && (cw (bd fn)).all fun q => Nat.ble (oH q.2.1 + 1) 1000
def QG (fn : Func) (a : Nat) : Bool := Nat.ble a 190 && Nat.ble a fn.ntmps
def facts (P : Program) (fn : Func) (f k a : Nat) : Option Func × Option Code × Array ResultVar × Bool × Bool × Bool × Bool := (P.funcs[f]?, fn.body, fn.results, (fn.name == "runtime.NumGoroutine"), Ql fn f k, codeOk fn.ntmps (bd fn), QG fn a)
def Jd (fn : Func) (rs : List ResultVar) : Option Func × Option Code × Array ResultVar × Bool × Bool × Bool × Bool := (some fn, some (bd fn), rs.toArray, false, true, true, true)
theorem Qs (hT : cn P K tt) (hm : P.follows .mixedOrders = true) (hK : ∀ r, K.rg r = MR P r) {fn : Func} {rs : List ResultVar} {an : An} {c : bO S} (hΦ : ∀ c ∈ Φ, Sound P K c) (hev : ∀ x, Om tb tt Φ fa c rs (bd fn) an x = c.cx x) (h : facts P fn c.f fa.fn c.ins.length = Jd fn rs) (hΨ : ∀ c ∈ fa.nd, jZ P K c) : Sound P K c := by
 simp only [facts, Jd, Prod.mk.injEq] at h
 obtain ⟨h1, h2, h3, h4, h5, h6, h7⟩ := h
 exact Hi hT hm hΦ h1 h2 h3 h4 h5 hK h6 h7 hev hΨ
def DU (P : Program) (r n : Nat) (ps : List Nat) (f a : Nat) : Nat × Bool × Bool × Bool × List (Array Nat × Code × Code) × List (Array Nat × Code × Code) × Bool := (f, ps.all fun p => Nat.ble (p + 1) n, codeOk n (NQ P r), codeOk n (NR P r), cw (NQ P r), cw (NR P r), Nat.ble a 190)
def DV (r : Nat) : Nat × Bool × Bool × Bool × List (Array Nat × Code × Code) × List (Array Nat × Code × Code) × Bool := (NL r, true, true, true, [], [], true)
theorem Rh (hT : cn P K tt) (hm : P.follows .mixedOrders = true) {r n : Nat} {ps : List Nat} {an : An} {c : bO S} (hΦ : ∀ c ∈ Φ, Sound P K c) (hev : ∀ x, Oo tb tt Φ fa c r ps (NQ P r) (NR P r) an x = c.cx x) (h : DU P r n ps c.f c.ins.length = DV r) (hrd : fa.rd = true) (hrg : K.rg r = some ⟨ps, NQ P r, NR P r, n⟩) (hΨ : ∀ c ∈ fa.nd, jZ P K c) : Sound P K c := by
 simp only [DU, DV, Prod.mk.injEq] at h
 obtain ⟨h1, h2, h3, h4, h5, h6, h7⟩ := h
 exact K3 hT hm hΦ h1 hrd hrg h2 h3 h4 h5 h6 h7 hev hΨ
end
end E
end Go.Proofs.YtekpafdhgkocaaaGreat
