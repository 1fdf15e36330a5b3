/- Part of what the laws need: plain words, the walker and its laws, the program's functions. -/
import Derived.Test.YtekpafdhgkocaaaGreatZDraw
namespace Go.Proofs.YtekpafdhgkocaaaGreat
open Go.RowKit G
section
variable {P : Program} {Q : Exit → Act → World → Prop} {rr : Option Nat} {n : Nat} {a : Act} {K : Kt} {ds : List Deferred} {w : World}
theorem Ja {x : Code} (J : Act → World → Prop) (hj : ∀ a w, J a w → Q .normal a w) (h : x.wpIn (FW rr) 0 P (Exit.then J Q) a w) : x.wpIn (FW rr) 0 P Q a w :=
 wpIn_mono h fun e a' w' hq => by cases e <;> first | exact hj _ _ hq | exact hq
theorem KY {σ A : Type} {f : σ → Option (σ ⊕ A)} {s0 : σ} {r : A} {c : Code} (h : Iter f s0 = some r) (I : σ → Act → World → Prop) (h0 : I s0 a w)
 (round : ∀ k s x a w, I s a w → f s = some x → A8 f k r x → c.wpIn (FW rr) 0 P (Exit.then (fun a' w' => ∃ k', k' < k ∧ ∃ s', kV f k' s' r ∧ I s' a' w') Q) a w) : (Code.loop c).wpIn (FW rr) 0 P Q a w := by
 obtain ⟨k, hk⟩ := gP.1 h
 refine Jb (fun k a w => ∃ s, kV f k s r ∧ I s a w) ⟨k, s0, hk, h0⟩ ?_
 rintro k a w ⟨s, hl, hI⟩
 cases k with
 | zero => exact hl.elim
 | succ k =>
   obtain ⟨x, hx, hl⟩ := hl
   refine round (k + 1) s x a w hI hx ?_
   cases x with
   | inl s' => exact ⟨k, Nat.lt_succ_self k, hl⟩
   | inr a => exact hl
theorem JV {σ A : Type} {f : σ → Option (σ ⊕ A)} {k : Nat} {r : A} {s' : σ} {I : σ → Act → World → Prop} (h : A8 f k r (.inl s')) (hI : I s' a w) : ∃ k', k' < k ∧ ∃ s', kV f k' s' r ∧ I s' a w := by
 obtain ⟨k', h1, h2⟩ := h; exact ⟨k', h1, s', h2, hI⟩
end
section
variable {P : Program} {o : Oper} {n : Nat} {a : Act} {K : Kt} {ds : List Deferred} {B : List Nat} {m0 m : Mem} {L : List az} {aL : Value → World → Prop} {x y z : Operand} {t e : TypeId} {α : Type} {R : Mem → α → List Value → Prop} {sz : Nat} {zv : Value} {bytes cap : Nat} {ad : Option Addr} {l l' : List α}
theorem OU {k : IntKind} {i : Int} {u : α} (hT : cq P t e zv sz bytes) (hE : cC R m sz ad cap l) (hx : idx l i = some u) (hK : Ke a K) (ho : o.op = .indexAddr t x y) (hxx : ed K x = some (.slice ad l.length cap)) (hy : ed K y = some (.int k i))
 (hp : ∀ b p cs, R m u cs → At m b p cs → aL (.pointer (some ⟨b, p, none⟩)) m.w) : ab P o a m.w aL := by
 obtain ⟨j, hij, hj⟩ := ox hx
 have hjl : j < l.length := (List.getElem?_eq_some_iff.1 hj).1
 have hu : l[j] = u := (List.getElem?_eq_some_iff.1 hj).2
 haveI : Inhabited α := ⟨u⟩
 refine KE hT hE j hK ho hxx hy hij hjl fun b p cs hR hA => hp b p cs ?_ hA
 rw [getElem!_pos l j hjl, hu] at hR; exact hR
theorem Gc {k : IntKind} {i : Int} (hT : cq P t e zv sz bytes) (hE : cC R m sz ad cap l) (hx : fY l i = some l') (hK : Ke a K) (ho : o.op = .slice t x (some y) none none) (hxx : ed K x = some (.slice ad l.length cap)) (hy : ed K y = some (.int k i))
 (hp : ∀ a' c', cC R m sz a' c' l' → aL (.slice a' l'.length c') m.w) : ab P o a m.w aL := by
 obtain ⟨j, hij, hj, rfl⟩ := sZ hx
 exact vr hT hE j hij hK ho hxx hy hj (hp _ _ (hE.from j hj))
theorem KF {k : IntKind} {i : Int} (hT : cq P t e zv sz bytes) (hE : cC R m sz ad cap l) (hx : jg l i = some l') (hK : Ke a K) (ho : o.op = .slice t x none (some y) none) (hxx : ed K x = some (.slice ad l.length cap)) (hy : ed K y = some (.int k i))
 (hp : ∀ a' c', cC R m sz a' c' l' → aL (.slice a' l'.length c') m.w) : ab P o a m.w aL := by
 obtain ⟨j, hij, hj, rfl⟩ := rD hx
 exact Ge hT hE j hij hK ho hxx hy hj (hp _ _ (hE.upto j hj))
theorem IC {k k' : IntKind} {i i' : Int} (hT : cq P t e zv sz bytes) (hE : cC R m sz ad cap l) (hx : mu l i i' = some l') (hK : Ke a K) (ho : o.op = .slice t x (some y) (some z) none) (hxx : ed K x = some (.slice ad l.length cap)) (hy : ed K y = some (.int k i)) (hz : ed K z = some (.int k' i'))
 (hp : ∀ a' c', cC R m sz a' c' l' → aL (.slice a' l'.length c') m.w) : ab P o a m.w aL := by
 obtain ⟨p, q, hip, hiq, hpq, hq, rfl⟩ := Cm hx
 exact DH hT hE p q hip hiq hK ho hxx hy hz ⟨hpq, hq⟩ (hp _ _ (hE.cut p q hpq hq))
theorem OP {g : Option Nat} {cap2 : Nat} {l2 : List α} {a2 : Option Addr} (hT : cq P t e zv sz bytes) (hR : lB R sz) (hx : app bytes l l2 = some l') (hK : Ke a K) (k : Nat) (hS : St B m0 m L) (hk : L[k]? = some (rowOf e sz g cap l)) (hE : cC R m sz (dW g) cap l) (hE2 : cC R m sz a2 cap2 l2)
 (ho : o.op = .call ⟨.builtin .append, #[x, y], #[t, t]⟩) (hxx : ed K x = some (.slice (dW g) l.length cap)) (hy : ed K y = some (.slice a2 l2.length cap2)) (hb : decide (1 ≤ bytes) = true)
 (hp : ∀ m' g' cap', Le m m' → St B m0 m' (rowOf e sz g' cap' l' :: L.eraseIdx k) → cC R m' sz (dW g') cap' l' → aL (.slice (dW g') l'.length cap') m'.w) : ab P o a m.w aL := by
 obtain ⟨h1, rfl⟩ := mC hx
 have h2 : l.length + l2.length ≤ (l.length + l2.length) * bytes := Nat.le_mul_of_pos_right _ (of_decide_eq_true hb)
 exact IA hT hR hK k hS hk hE hE2 ho hxx hy h1 hp (by unfold maxLen; omega)
theorem wi (hR : lB R sz) (hS : St B m0 m L) {l2 : List α} {css dss : List (List Value)} (h2 : css.length = l.length) (h4 : ∀ (i : Nat) (x : α) (cs : List Value), l[i]? = some x → css[i]? = some cs → cs.length = sz ∧ R m x cs)
 (k2 : dss.length = l2.length) (k4 : ∀ (i : Nat) (x : α) (cs : List Value), l2[i]? = some x → dss[i]? = some cs → cs.length = sz ∧ R m x cs) (hxl : css.flatten.length = l.length * sz) (hyl : dss.flatten.length = l2.length * sz)
 {cap' : Nat} {cur : Array Value} (hcs : cur.size = cap' * sz) (hge : l.length + l2.length ≤ cap') (hcm : cap' ≤ maxLen) (htake : cur.toList.take ((l.length + l2.length) * sz) = css.flatten ++ dss.flatten) :
 ∃ m' : Mem, m'.w = m.w.drew.alloc (.cells cur e (0, 0)) ∧ Le m m' ∧ St B m0 m' (rowOf e sz (some m.w.heap.size) cap' (l ++ l2) :: L) ∧ cC R m' sz (dW (some m.w.heap.size)) cap' (l ++ l2) := by
 obtain ⟨f2, f4⟩ := rn h2 h4 k2 k4
 have hll : (l ++ l2).length = l.length + l2.length := by simp
 have hg : Below m.w.heap.size m.w (m.w.drew.alloc (.cells cur e (0, 0))) := ((Below.refl _ _).drew).alloc (Nat.le_refl _) _
 have hb' : (m.w.drew.alloc (.cells cur e (0, 0))).heap[m.w.heap.size]? = some (.cells cur e (0, 0)) := heap_alloc_new m.w.drew _
 let X : Nat → Nat → Prop := fun c o => c = m.w.heap.size ∧ o < (l ++ l2).length * sz
 have hle : Le m ⟨m.w.drew.alloc (.cells cur e (0, 0)), fun c o => m.ok c o ∨ X c o⟩ :=
  ⟨rfl, rfl, rfl, Below.size hg, fun c o hc => ⟨⟨.inl hc, Nat.lt_of_lt_of_le hc.2 (Below.size hg)⟩, pA hg hc.2⟩⟩
 have k : St [] m ⟨m.w.drew.alloc (.cells cur e (0, 0)), fun c o => m.ok c o ∨ X c o⟩ [rowOf e sz (some m.w.heap.size) cap' (l ++ l2)] := by
  refine ⟨hle, fun c hc _ => Below.block hg c hc, fun c o hc => ?_, ⟨by simp [rowOf, az.row], fun x hx => ?_, fun x hx c hc o ho hm => ?_⟩, fun c hc => ?_⟩
  · rcases hc.1 with h | h
    · exact .inl h
    · exact .inr (.inl (by rw [h.1]; exact Nat.le_refl _))
  · simp at hx; subst hx
    intro c hc; cases hc
    exact ⟨cur, hb', hcs⟩
  · simp at hx; subst hx
    simp [rowOf, az.row] at hc; subst hc
    have ho' : (l ++ l2).length * sz ≤ o := ho
    rcases hm.1 with h | h
    · exact absurd h.2 (by simp)
    · have h2 : o < (l ++ l2).length * sz := h.2
      omega
  · simp [rowOf, az.row] at hc; subst hc; exact .inr (Nat.le_refl _)
 have hE' : cC R ⟨m.w.drew.alloc (.cells cur e (0, 0)), fun c o => m.ok c o ∨ X c o⟩ sz (dW (some m.w.heap.size)) cap' (l ++ l2) := by
  refine ⟨css ++ dss, ⟨?_, by simpa using hge, hcm, (fun h => by cases h), fun j v hv => ⟨m.w.heap.size, 0, rfl, ⟨.inr ⟨rfl, ?_⟩, by simp⟩, ?_⟩⟩, f2, fun i x cs hx hc => ⟨(f4 i x cs hx hc).1, hR.mono (f4 i x cs hx hc).2 hle⟩⟩
  · simp only [List.flatten_append, List.length_append, hxl, hyl, Nat.add_mul]
  · have : j < (css ++ dss).flatten.length := (List.getElem?_eq_some_iff.1 hv).1
    simp only [List.flatten_append, List.length_append, hxl, hyl] at this
    rw [hll, Nat.add_mul]; omega
  · have hjl : j < (css ++ dss).flatten.length := (List.getElem?_eq_some_iff.1 hv).1
    simp only [List.flatten_append, List.length_append, hxl, hyl] at hjl
    rw [cell_of_row _ _ _ _ _ _ hb', Nat.zero_add, ← Array.getElem?_toList]
    have e1 : (cur.toList.take ((l.length + l2.length) * sz))[j]? = (css.flatten ++ dss.flatten)[j]? := by rw [htake]
    rw [List.getElem?_take, if_pos (by rw [Nat.add_mul]; omega)] at e1
    rw [e1, ← List.flatten_append]; exact hv
 exact ⟨_, rfl, hle, hS.call k, hE'⟩
theorem zG {cap2 : Nat} {l2 : List α} {a2 : Option Addr} (hT : cq P t e zv sz bytes) (hR : lB R sz) (hx : app bytes l l2 = some l') (hK : Ke a K) (hS : St B m0 m L) (hE : cC R m sz ad cap l) (hE2 : Gy R m sz a2 cap2 l2)
 (ho : o.op = .call ⟨.builtin .append, #[x, y], #[t, t]⟩) (hxx : ed K x = some (.slice ad l.length cap)) (hy : ed K y = some (.slice a2 l2.length cap2)) (hb : decide (1 ≤ bytes) = true) (hfull : cap < l.length + l2.length)
 (hp : ∀ m' g' cap', Le m m' → St B m0 m' (rowOf e sz g' cap' l' :: L) → cC R m' sz (dW g') cap' l' → aL (.slice (dW g') l'.length cap') m'.w) : ab P o a m.w aL := by
 obtain ⟨hlen, rfl⟩ := mC hx
 have h2 : l.length + l2.length ≤ (l.length + l2.length) * bytes := Nat.le_mul_of_pos_right _ (of_decide_eq_true hb)
 have h63 : l.length + l2.length ≤ maxLen := by unfold maxLen; omega
 obtain ⟨css, h1, h2, h4⟩ := hE
 obtain ⟨dss, k1, k2, k4⟩ := hE2
 have hone := ud hR k2 k4
 have hll : (l ++ l2).length = l.length + l2.length := by simp
 obtain ⟨cap', cur, hrun, hcs, hge, hcm, htake⟩ := oI (P := P) (ty := o.type) hT ad l.length cap _ h1 a2 l2.length cap2 _ k1 hone hlen h63 hfull
 obtain ⟨m', r1, r2, r3, r4⟩ := wi (e := e) hR hS h2 h4 k2 k4 h1.1 k1.1 hcs hge hcm htake
 unfold ab execOp
 simp only [ho, resolve, invoke, builtin, Sem.run_bind, Sem.run_pure, Result.andThen_ok, List.map_toArray, List.map_cons, List.map_nil, hK.ev hxx, hK.ev hy, hrun]
 have := hp m' (some m.w.heap.size) cap' r2 r3 r4
 rw [hll, r1] at this
 exact this
theorem Iz {cap2 : Nat} {l2 : List α} {a2 : Option Addr} (hT : cq P t e zv sz bytes) (hR : lB R sz) (hx : app bytes l l2 = some l') (hK : Ke a K) (hS : St B m0 m L) (hE : cC R m sz ad cap l) (hE2 : cC R m sz a2 cap2 l2)
 (ho : o.op = .call ⟨.builtin .append, #[x, y], #[t, t]⟩) (hxx : ed K x = some (.slice ad l.length cap)) (hy : ed K y = some (.slice a2 l2.length cap2)) (hb : decide (1 ≤ bytes) = true) (hfull : cap < l.length + l2.length)
 (hp : ∀ m' g' cap', Le m m' → St B m0 m' (rowOf e sz g' cap' l' :: L) → cC R m' sz (dW g') cap' l' → aL (.slice (dW g') l'.length cap') m'.w) : ab P o a m.w aL :=
 zG hT hR hx hK hS hE hE2.src ho hxx hy hb hfull hp
theorem xP {b T size nn i c o0 : Nat} (hK : Ke a K) (hS : St B m0 m (.row (some b) T size nn :: L)) (ho : o.op = .convert t t x) (hx : ed K x = some (.slice (some ⟨b, o0, none⟩) i c)) (hu : P.underlying t = some (.slice e)) (he : P.underlying e = some (.int .u8))
 (hp : ∀ m', Le m m' → St B m0 m' L → aL (.slice (some ⟨b, o0, none⟩) i c) m'.w) : ab P o a m.w aL := by
 have hbn : b ∉ ak L := by
  have := hS.ow.nodup; rw [cu] at this
  simp [az.row] at this; exact this.1
 have hbB := hS.wJ b (by rw [cu]; simp [az.row])
 have hS' := hS.drop
 have key : ∀ w' : World, w'.os = m.w.os → w'.tape = m.w.tape → w'.output = m.w.output → w'.heap.size = m.w.heap.size → (∀ q, w'.cell? q = m.w.cell? q) → (∀ k, k ≠ b → w'.heap[k]? = m.w.heap[k]?) → aL (.slice (some ⟨b, o0, none⟩) i c) w' := by
  intro w' h1 h2 h3 h4 h5 h6
  have hle : Le m ⟨w', m.ok⟩ := ⟨h1, h2, h3, Nat.le_of_eq h4.symm, fun b' o' hb' => ⟨⟨hb', by simpa [h4] using hb'.2⟩, h5 _⟩⟩
  refine hp ⟨w', m.ok⟩ hle ⟨hS'.le.trans hle, fun b' hb' hB => (h6 b' (fun e => by subst e; rcases hbB with h | h; exact hB h; omega)).trans (hS'.kept b' hb' hB), fun b' o' ho' => hS'.news b' o' ho'.1, ⟨hS'.ow.nodup, fun e' he' => e'.loc _ _ (hS'.ow.ok e' he') fun b' hb' => h6 b' (fun e => hbn (bH.2 ⟨e', he', e ▸ hb'⟩)), fun e' he' b' hb' o' hf hm => hS'.ow.apart e' he' b' hb' o' hf hm.1⟩, hS'.wJ⟩
 have hrun : ∃ w', (convert t t (.slice (some ⟨b, o0, none⟩) i c)).run P m.w = .ok (.slice (some ⟨b, o0, none⟩) i c) w' ∧ aL (.slice (some ⟨b, o0, none⟩) i c) w' := by
  show ∃ w', (convert t t (.slice (some ⟨b, o0, none⟩) i c)).run P m.w = .ok (.slice (some ⟨b, o0, none⟩) i c) w' ∧ aL (.slice (some ⟨b, o0, none⟩) i c) w'
  simp only [convert, Sem.run_bind, run_underlying hu, run_underlying he, Result.andThen_ok, beq_self_eq_true, markStringish, Go.shape, Sem.run]
  cases hsh : m.w.shape? b with
  | none => exact ⟨m.w, rfl, key _ rfl rfl rfl rfl (fun _ => rfl) (fun _ _ => rfl)⟩
  | some p =>
    have hz : ∀ (w : World) (p : Addr) (n : Nat), (w.freeze p n).os = w.os ∧ (w.freeze p n).tape = w.tape ∧ (w.freeze p n).output = w.output := fun w p n => by unfold World.freeze; split <;> exact ⟨rfl, rfl, rfl⟩
    exact ⟨m.w.freeze ⟨b, p.2, none⟩ 1, rfl, key _ (hz _ _ _).1 (hz _ _ _).2.1 (hz _ _ _).2.2 (BH _ _ _) (fun q => BG _ _ _ _) (fun k hk => Ag _ _ _ _ hk)⟩
 obtain ⟨w', h1, h2⟩ := hrun
 unfold ab execOp
 simp only [ho, hK.ev hx, Sem.run_bind, h1, Result.andThen_ok, Sem.run_pure]
 exact h2
theorem Cg {b p n : Nat} {k : IntKind} {i : Int} (hT : P.underlying t = some (.array n e)) (hs : (P.info? e).map (·.size) = some 1) (hi : 0 ≤ i ∧ i < (n : Int)) (hK : Ke a K) (ho : o.op = .indexAddr t x y) (hx : ed K x = some (.pointer (some ⟨b, p, none⟩))) (hy : ed K y = some (.int k i))
 (hp : aL (.pointer (some ⟨b, i.toNat + p, none⟩)) m.w) : ab P o a m.w aL := by
 have hsz : (sizeOf e).run P m.w = .ok 1 m.w := by
  cases hi : P.info? e with
  | none => simp [hi] at hs
  | some inf => simp [hi] at hs; simp [sizeOf, typeInfo, hi, hs]
 unfold ab execOp
 simp only [ho, hK.ev hx, hK.ev hy, Instr.indexAt, asIntOf, Instr.sureAddr, Sem.run_bind, Sem.run_pure, Result.andThen_ok, run_underlying hT, hsz, hi, and_self, if_true, Nat.mul_one, Addr.add_mid]
 rw [Nat.add_comm]; exact hp
theorem EI {op : BinOp} {k : IntKind} {i j : Int} {ρ : Operand → Value} {ty ty' : TypeId} {v : Value} {w : World} (hj : ¬ j = 0) (ho : o.op = .binOp op ty x y ty') (hx : ρ x = .int k i) (hy : ρ y = .int k j) (hv : op = .quo ∧ v = .int k (k.wrap (i.tdiv j)) ∨ op = .rem ∧ v = .int k (i.tmod j)) : (execOp ρ o).run P w = .ok (.value v) w := by
 rcases hv with ⟨rfl, rfl⟩ | ⟨rfl, rfl⟩ <;> simp [execOp, ho, hx, hy, binOp, Op.intDiv, hj, eqGuard]
end
theorem KA {P : Program} {o : Oper} {x y : Operand} {k k' : IntKind} {i j : Int} {ρ : Operand → Value} {ty ty' : TypeId} {w : World} (hj : 0 ≤ j) (ho : o.op = .binOp .shl ty x y ty') (hx : ρ x = .int k i) (hy : ρ y = .int k' j) : (execOp ρ o).run P w = .ok (.value (.int k (iC k i j))) w := by
 have h : ¬ j < 0 := by omega
 simp [execOp, ho, hx, hy, binOp, Op.shift, h, eqGuard, iC]
theorem KB {P : Program} {o : Oper} {x y : Operand} {k k' : IntKind} {i j : Int} {ρ : Operand → Value} {ty ty' : TypeId} {w : World} (hj : 0 ≤ j) (ho : o.op = .binOp .shr ty x y ty') (hx : ρ x = .int k i) (hy : ρ y = .int k' j) : (execOp ρ o).run P w = .ok (.value (.int k (bN k i j))) w := by
 have h : ¬ j < 0 := by omega
 simp [execOp, ho, hx, hy, binOp, Op.shift, h, eqGuard, bN]
theorem Ll {k : IntKind} (hk : (k == .i8) = false) (c : UInt8) : k.wrap (c.toNat : Int) = (c.toNat : Int) := by
 have := c.toNat_lt
 cases k <;> simp [IntKind.wrap, IntKind.bits, IntKind.signed] at hk ⊢ <;> omega
theorem Me (c : UInt8) : IntKind.u8.wrap (c.toNat : Int) = (c.toNat : Int) := Ll rfl c
theorem DR {y : Int} (h : ∃ x, y = IntKind.u8.wrap x) : y = ((u8 y).toNat : Int) := by
 obtain ⟨x, rfl⟩ := h; rw [lz, Q1]; omega
theorem JM (c j : Nat) : ((c : Int).fdiv (2 ^ j)) = ((c / 2 ^ j : Nat) : Int) := by
 rw [Int.fdiv_eq_ediv_of_nonneg _ (Int.le_of_lt (Int.pow_pos (by decide)))]; simp
theorem NB (c : UInt8) (y : Int) : bN .u8 (c.toNat : Int) y = ((u8 (bN .u8 (c.toNat : Int) y)).toNat : Int) := by
 have hc := c.toNat_lt
 have h : bN .u8 (c.toNat : Int) y = ((c.toNat / 2 ^ (min y.toNat 8) : Nat) : Int) := by unfold bN; exact JM _ _
 have h2 : c.toNat / 2 ^ (min y.toNat 8) ≤ c.toNat := Nat.div_le_self _ _
 rw [h, lz]; generalize c.toNat / 2 ^ (min y.toNat 8) = q at *; omega
theorem DE {P : Program} {t e : TypeId} {w : World} (hu : P.underlying t = some (.array 32 e)) (he : P.underlying e = some (.int .u8)) (hs : gR P e = some (false, 1)) (f g : Nat → UInt8) : (binOp .neq t (.agg (lb f)) (.agg (lb g))).run P w = .ok (.bool (!gL f g)) w := by
 have h := xN (w := w) hu he hs f g
 have h2 : ∀ xs ys : Array Value, (binOp .eql t (.agg xs) (.agg ys)).run P w = .ok (.bool (gL f g)) w → (binOp .neq t (.agg xs) (.agg ys)).run P w = .ok (.bool (!gL f g)) w := by
  intro xs ys h
  simp only [binOp, Sem.run_bind] at h ⊢
  cases hr : (Op.equal t (.agg xs) (.agg ys)).run P w with
  | ok b w' => rw [hr] at h; simp [Sem.run_pure, Result.andThen_ok] at h ⊢; obtain ⟨h1, h2⟩ := h; subst h1; exact ⟨rfl, h2⟩
  | halt x w' => rw [hr] at h; simp [Result.andThen] at h
 exact h2 _ _ h
section
variable {P : Program} {ops : Array Oper} {o : Oper} {n : Nat} {a : Act} {K : Kt} {ds : List Deferred} {w : World} {rest : List Oper} {Q : Exit → Act → World → Prop} {rr : Option Nat}
theorem qs (d : Nat) (hK : Kn n a K ds) (h : ∀ a', Kn n a' ((d, undef) :: K) ds → wpListIn (FW rr) 0 P ops Q rest a' w) (hc : Dq ops o K n d = true := by kernel_rfl) : wpListIn (FW rr) 0 P ops Q (o :: rest) a w := MO d hK hc h
end
def isNum (k : IntKind) (_ : Mem) (x : Int) (cs : List Value) : Prop := cs = [.int k x]
theorem EB (k : IntKind) : lB (isNum k) 1 := ⟨fun h _ => h, fun h => by rw [h]; rfl, fun h u hu => by rw [h] at hu; simp at hu; subst hu; rfl, by decide⟩
def Ox (_ : Mem) (x : Bool) (cs : List Value) : Prop := cs = [.bool x]
theorem Ik : lB Ox 1 := ⟨fun h _ => h, fun h => by rw [h]; rfl, fun h u hu => by rw [h] at hu; simp at hu; subst hu; rfl, by decide⟩
abbrev str (l : List UInt8) : ByteArray := ⟨l.toArray⟩
def isStr (_ : Mem) (x : List UInt8) (cs : List Value) : Prop := cs = [.string (str x)]
theorem ED : lB isStr 1 := ⟨fun h _ => h, fun h => by rw [h]; rfl, fun h u hu => by rw [h] at hu; simp at hu; subst hu; rfl, by decide⟩
def Dg {α : Type} (R : Mem → α → List Value → Prop) (sz : Nat) (m : Mem) (x : List α) (cs : List Value) : Prop := ∃ a c, cs = [.slice a x.length c] ∧ cC R m sz a c x
theorem DA {α : Type} {R : Mem → α → List Value → Prop} {sz : Nat} (h : lB R sz) : lB (Dg R sz) 1 :=
 ⟨fun ⟨a, c, h1, h2⟩ l => ⟨a, c, h1, cC.mono h h2 l⟩, fun ⟨a, c, h1, _⟩ => by rw [h1]; rfl, fun ⟨a, c, h1, _⟩ u hu => by rw [h1] at hu; simp at hu; subst hu; rfl, by decide⟩
namespace D
def Q8 (T : Option TypeId) (w : World) (b : Nat) : Prop := ∃ t, T = some t ∧ Q9 t w b
@[reducible] def _root_.Go.Proofs.YtekpafdhgkocaaaGreat.Mem.Re (m : Mem) (T : Option TypeId) (w' : World) : Mem := ⟨w', fun b o => m.ok b o ∨ (m.w.heap.size ≤ b ∧ ¬ Q8 T w' b)⟩
theorem nT {T : TypeId} {B : List Nat} {m0 m m1 : Mem} {L0 L : List az} {b : Nat} {z : Array Value} (h0 : St B m0 m L0) (hm : m.Re (some T) m1.w = m1) (hlt : ∀ b ∈ ak L, b < m.w.heap.size) (h : St B m0 m1 L) (hb : m.w.heap.size ≤ b ∧ m1.w.heap[b]? = some (.cells z T (0, 0))) : St B m0 m1 (.box b z T :: L) := by
 refine ⟨h.le, h.kept, h.news, ⟨?_, fun e he => ?_, fun e he c hc o ho hok => ?_⟩, fun c hc => ?_⟩
 · rw [cu]; simp only [az.box, List.singleton_append, List.nodup_cons]
   exact ⟨fun hm => by have := hlt b hm; omega, h.ow.nodup⟩
 · simp at he
   rcases he with rfl | he
   · exact hb.2
   · exact h.ow.ok e he
 · simp at he
   rcases he with rfl | he
   · simp [az.box] at hc; subst hc
     rw [← hm] at hok
     rcases hok.1 with h1 | h1
     · have := h1.2; omega
     · exact h1.2 ⟨T, rfl, z, (0, 0), hb.2⟩
   · exact h.ow.apart e he c hc o ho hok
 · rw [cu] at hc
   simp [az.box] at hc
   rcases hc with rfl | hc
   · exact .inr (Nat.le_trans h0.le.size hb.1)
   · exact h.wJ c hc
end D
end Go.Proofs.YtekpafdhgkocaaaGreat
