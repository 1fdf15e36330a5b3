/- Part of what the laws need: plain words, the walker and its laws, the program's functions. -/
import Derived.Test.YthhmandpjlggcaaZDraw
namespace Go.Proofs.Ythhmandpjlggcaa
open Go.RowKit G
section
variable {P : Program} {Q : Exit → Act → World → Prop} {rr : Option Nat} {n : Nat} {a : Act} {K : Kt} {ds : List Deferred} {w : World}
theorem w_join {x : Code} (J : Act → World → Prop) (hj : ∀ a w, J a w → Q .normal a w) (h : x.wpIn (FW rr) 0 P (Exit.then J Q) a w) : x.wpIn (FW rr) 0 P Q a w :=
  wpIn_mono h fun e a' w' hq => by cases e <;> first | exact hj _ _ hq | exact hq
theorem w_loopL {σ A : Type} {f : σ → Option (σ ⊕ A)} {s0 : σ} {r : A} {c : Code} (h : Iter f s0 = some r) (I : σ → Act → World → Prop) (h0 : I s0 a w)
    (round : ∀ k s x a w, I s a w → f s = some x → LoopNext f k r x → c.wpIn (FW rr) 0 P (Exit.then (fun a' w' => ∃ k', k' < k ∧ ∃ s', LoopN f k' s' r ∧ I s' a' w') Q) a w) : (Code.loop c).wpIn (FW rr) 0 P Q a w := by
  obtain ⟨k, hk⟩ := Iter_iff.1 h
  refine w_loop (fun k a w => ∃ s, LoopN f k s r ∧ I s a w) ⟨k, s0, hk, h0⟩ ?_
  rintro k a w ⟨s, hl, hI⟩
  cases k with
  | zero => exact hl.elim
  | succ k =>
    obtain ⟨x, hx, hl⟩ := hl
    refine round (k + 1) s x a w hI hx ?_
    cases x with
    | inl s' => exact ⟨k, Nat.lt_succ_self k, hl⟩
    | inr a => exact hl
theorem loop_go {σ A : Type} {f : σ → Option (σ ⊕ A)} {k : Nat} {r : A} {s' : σ} {I : σ → Act → World → Prop} (h : LoopNext f k r (.inl s')) (hI : I s' a w) : ∃ k', k' < k ∧ ∃ s', LoopN f k' s' r ∧ I s' a w := by
  obtain ⟨k', h1, h2⟩ := h; exact ⟨k', h1, s', h2, hI⟩
end
section
variable {P : Program} {o : Oper} {n : Nat} {a : Act} {K : Kt} {ds : List Deferred} {B : List Nat} {m0 m : Mem} {L : List Ent} {Post : Value → World → Prop} {x y z : Operand} {t e : TypeId} {α : Type} {R : Mem → α → List Value → Prop} {sz : Nat} {zv : Value} {bytes cap : Nat} {ad : Option Addr} {l l' : List α}
theorem s_idx {k : IntKind} {i : Int} {u : α} (hT : ElemT P t e zv sz bytes) (hE : Els R m sz ad cap l) (hx : idx l i = some u) (hK : Ke a K) (ho : o.op = .indexAddr t x y) (hxx : evK K x = some (.slice ad l.length cap)) (hy : evK K y = some (.int k i))
    (hp : ∀ b p cs, R m u cs → At m b p cs → Post (.pointer (some ⟨b, p, none⟩)) m.w) : StepTo P o a m.w Post := by
  obtain ⟨j, hij, hj⟩ := idx_some hx
  have hjl : j < l.length := (List.getElem?_eq_some_iff.1 hj).1
  have hu : l[j] = u := (List.getElem?_eq_some_iff.1 hj).2
  haveI : Inhabited α := ⟨u⟩
  refine s_index hT hE j hK ho hxx hy hij hjl fun b p cs hR hA => hp b p cs ?_ hA
  rw [getElem!_pos l j hjl, hu] at hR; exact hR
theorem s_slcFrom {k : IntKind} {i : Int} (hT : ElemT P t e zv sz bytes) (hE : Els R m sz ad cap l) (hx : slcFrom l i = some l') (hK : Ke a K) (ho : o.op = .slice t x (some y) none none) (hxx : evK K x = some (.slice ad l.length cap)) (hy : evK K y = some (.int k i))
    (hp : ∀ a' c', Els R m sz a' c' l' → Post (.slice a' l'.length c') m.w) : StepTo P o a m.w Post := by
  obtain ⟨j, hij, hj, rfl⟩ := slcFrom_some hx
  exact s_sliceFrom hT hE j hij hK ho hxx hy hj (hp _ _ (hE.from j hj))
theorem s_slcTo {k : IntKind} {i : Int} (hT : ElemT P t e zv sz bytes) (hE : Els R m sz ad cap l) (hx : slcTo l i = some l') (hK : Ke a K) (ho : o.op = .slice t x none (some y) none) (hxx : evK K x = some (.slice ad l.length cap)) (hy : evK K y = some (.int k i))
    (hp : ∀ a' c', Els R m sz a' c' l' → Post (.slice a' l'.length c') m.w) : StepTo P o a m.w Post := by
  obtain ⟨j, hij, hj, rfl⟩ := slcTo_some hx
  exact s_sliceTo hT hE j hij hK ho hxx hy hj (hp _ _ (hE.upto j hj))
theorem s_slcMid {k k' : IntKind} {i i' : Int} (hT : ElemT P t e zv sz bytes) (hE : Els R m sz ad cap l) (hx : slcMid l i i' = some l') (hK : Ke a K) (ho : o.op = .slice t x (some y) (some z) none) (hxx : evK K x = some (.slice ad l.length cap)) (hy : evK K y = some (.int k i)) (hz : evK K z = some (.int k' i'))
    (hp : ∀ a' c', Els R m sz a' c' l' → Post (.slice a' l'.length c') m.w) : StepTo P o a m.w Post := by
  obtain ⟨p, q, hip, hiq, hpq, hq, rfl⟩ := slcMid_some hx
  exact s_sliceMid hT hE p q hip hiq hK ho hxx hy hz ⟨hpq, hq⟩ (hp _ _ (hE.cut p q hpq hq))
theorem s_app {g : Option Nat} {cap2 : Nat} {l2 : List α} {a2 : Option Addr} (hT : ElemT P t e zv sz bytes) (hR : Rep R sz) (hx : app bytes l l2 = some l') (hK : Ke a K) (k : Nat) (hS : St B m0 m L) (hk : L[k]? = some (rowOf e sz g cap l)) (hE : Els R m sz (adr g) cap l) (hE2 : Els R m sz a2 cap2 l2)
    (ho : o.op = .call ⟨.builtin .append, #[x, y], #[t, t]⟩) (hxx : evK K x = some (.slice (adr g) l.length cap)) (hy : evK K y = some (.slice a2 l2.length cap2)) (hb : decide (1 ≤ bytes) = true)
    (hp : ∀ m' g' cap', Le m m' → St B m0 m' (rowOf e sz g' cap' l' :: L.eraseIdx k) → Els R m' sz (adr g') cap' l' → Post (.slice (adr g') l'.length cap') m'.w) : StepTo P o a m.w Post := by
  obtain ⟨h1, rfl⟩ := app_some hx
  have h2 : l.length + l2.length ≤ (l.length + l2.length) * bytes := Nat.le_mul_of_pos_right _ (of_decide_eq_true hb)
  exact s_append hT hR hK k hS hk hE hE2 ho hxx hy h1 hp (by unfold maxLen; omega)
theorem row_new (hR : Rep R sz) (hS : St B m0 m L) {l2 : List α} {css dss : List (List Value)} (h2 : css.length = l.length) (h4 : ∀ (i : Nat) (x : α) (cs : List Value), l[i]? = some x → css[i]? = some cs → cs.length = sz ∧ R m x cs)
    (k2 : dss.length = l2.length) (k4 : ∀ (i : Nat) (x : α) (cs : List Value), l2[i]? = some x → dss[i]? = some cs → cs.length = sz ∧ R m x cs) (hxl : css.flatten.length = l.length * sz) (hyl : dss.flatten.length = l2.length * sz)
    {cap' : Nat} {cur : Array Value} (hcs : cur.size = cap' * sz) (hge : l.length + l2.length ≤ cap') (hcm : cap' ≤ maxLen) (htake : cur.toList.take ((l.length + l2.length) * sz) = css.flatten ++ dss.flatten) :
    ∃ m' : Mem, m'.w = m.w.drew.alloc (.cells cur e (0, 0)) ∧ Le m m' ∧ St B m0 m' (rowOf e sz (some m.w.heap.size) cap' (l ++ l2) :: L) ∧ Els R m' sz (adr (some m.w.heap.size)) cap' (l ++ l2) := by
  obtain ⟨f2, f4⟩ := els_append h2 h4 k2 k4
  have hll : (l ++ l2).length = l.length + l2.length := by simp
  have hg : Below m.w.heap.size m.w (m.w.drew.alloc (.cells cur e (0, 0))) := ((Below.refl _ _).drew).alloc (Nat.le_refl _) _
  have hb' : (m.w.drew.alloc (.cells cur e (0, 0))).heap[m.w.heap.size]? = some (.cells cur e (0, 0)) := heap_alloc_new m.w.drew _
  let X : Nat → Nat → Prop := fun c o => c = m.w.heap.size ∧ o < (l ++ l2).length * sz
  have hle : Le m ⟨m.w.drew.alloc (.cells cur e (0, 0)), fun c o => m.ok c o ∨ X c o⟩ :=
    ⟨rfl, rfl, rfl, Below.size hg, fun c o hc => ⟨⟨.inl hc, Nat.lt_of_lt_of_le hc.2 (Below.size hg)⟩, grow_cell hg hc.2⟩⟩
  have k : St [] m ⟨m.w.drew.alloc (.cells cur e (0, 0)), fun c o => m.ok c o ∨ X c o⟩ [rowOf e sz (some m.w.heap.size) cap' (l ++ l2)] := by
    refine ⟨hle, fun c hc _ => Below.block hg c hc, fun c o hc => ?_, ⟨by simp [rowOf, Ent.row], fun x hx => ?_, fun x hx c hc o ho hm => ?_⟩, fun c hc => ?_⟩
    · rcases hc.1 with h | h
      · exact .inl h
      · exact .inr (.inl (by rw [h.1]; exact Nat.le_refl _))
    · simp at hx; subst hx
      intro c hc; cases hc
      exact ⟨cur, hb', hcs⟩
    · simp at hx; subst hx
      simp [rowOf, Ent.row] at hc; subst hc
      have ho' : (l ++ l2).length * sz ≤ o := ho
      rcases hm.1 with h | h
      · exact absurd h.2 (by simp)
      · have h2 : o < (l ++ l2).length * sz := h.2
        omega
    · simp [rowOf, Ent.row] at hc; subst hc; exact .inr (Nat.le_refl _)
  have hE' : Els R ⟨m.w.drew.alloc (.cells cur e (0, 0)), fun c o => m.ok c o ∨ X c o⟩ sz (adr (some m.w.heap.size)) cap' (l ++ l2) := by
    refine ⟨css ++ dss, ⟨?_, by simpa using hge, hcm, (fun h => by cases h), fun j v hv => ⟨m.w.heap.size, 0, rfl, ⟨.inr ⟨rfl, ?_⟩, by simp⟩, ?_⟩⟩, f2, fun i x cs hx hc => ⟨(f4 i x cs hx hc).1, hR.mono (f4 i x cs hx hc).2 hle⟩⟩
    · simp only [List.flatten_append, List.length_append, hxl, hyl, Nat.add_mul]
    · have : j < (css ++ dss).flatten.length := (List.getElem?_eq_some_iff.1 hv).1
      simp only [List.flatten_append, List.length_append, hxl, hyl] at this
      rw [hll, Nat.add_mul]; omega
    · have hjl : j < (css ++ dss).flatten.length := (List.getElem?_eq_some_iff.1 hv).1
      simp only [List.flatten_append, List.length_append, hxl, hyl] at hjl
      rw [cell_of_row _ _ _ _ _ _ hb', Nat.zero_add, ← Array.getElem?_toList]
      have e1 : (cur.toList.take ((l.length + l2.length) * sz))[j]? = (css.flatten ++ dss.flatten)[j]? := by rw [htake]
      rw [List.getElem?_take, if_pos (by rw [Nat.add_mul]; omega)] at e1
      rw [e1, ← List.flatten_append]; exact hv
  exact ⟨_, rfl, hle, hS.call k, hE'⟩
theorem s_appNew {cap2 : Nat} {l2 : List α} {a2 : Option Addr} (hT : ElemT P t e zv sz bytes) (hR : Rep R sz) (hx : app bytes l l2 = some l') (hK : Ke a K) (hS : St B m0 m L) (hE : Els R m sz ad cap l) (hE2 : Els R m sz a2 cap2 l2)
    (ho : o.op = .call ⟨.builtin .append, #[x, y], #[t, t]⟩) (hxx : evK K x = some (.slice ad l.length cap)) (hy : evK K y = some (.slice a2 l2.length cap2)) (hb : decide (1 ≤ bytes) = true) (hfull : cap < l.length + l2.length)
    (hp : ∀ m' g' cap', Le m m' → St B m0 m' (rowOf e sz g' cap' l' :: L) → Els R m' sz (adr g') cap' l' → Post (.slice (adr g') l'.length cap') m'.w) : StepTo P o a m.w Post := by
  obtain ⟨hlen, rfl⟩ := app_some hx
  have h2 : l.length + l2.length ≤ (l.length + l2.length) * bytes := Nat.le_mul_of_pos_right _ (of_decide_eq_true hb)
  have h63 : l.length + l2.length ≤ maxLen := by unfold maxLen; omega
  obtain ⟨css, h1, h2, h4⟩ := hE
  obtain ⟨dss, k1, k2, k4⟩ := hE2
  have hone := cells_one hR k2 k4
  have hll : (l ++ l2).length = l.length + l2.length := by simp
  obtain ⟨cap', cur, hrun, hcs, hge, hcm, htake⟩ := run_append_new (P := P) (ty := o.type) hT ad l.length cap _ h1 a2 l2.length cap2 _ k1 hone hlen h63 hfull
  obtain ⟨m', r1, r2, r3, r4⟩ := row_new (e := e) hR hS h2 h4 k2 k4 h1.1 k1.1 hcs hge hcm htake
  unfold StepTo execOp
  simp only [ho, resolve, invoke, builtin, Sem.run_bind, Sem.run_pure, Result.andThen_ok, List.map_toArray, List.map_cons, List.map_nil, hK.ev hxx, hK.ev hy, hrun]
  have := hp m' (some m.w.heap.size) cap' r2 r3 r4
  rw [hll, r1] at this
  exact this
theorem s_stringishRow {b T size nn i c o0 : Nat} (hK : Ke a K) (hS : St B m0 m (.row (some b) T size nn :: L)) (ho : o.op = .convert t t x) (hx : evK K x = some (.slice (some ⟨b, o0, none⟩) i c)) (hu : P.underlying t = some (.slice e)) (he : P.underlying e = some (.int .u8))
    (hp : ∀ m', Le m m' → St B m0 m' L → Post (.slice (some ⟨b, o0, none⟩) i c) m'.w) : StepTo P o a m.w Post := by
  have hbn : b ∉ blocksOf L := by
    have := hS.ow.nodup; rw [blocksOf_cons] at this
    simp [Ent.row] at this; exact this.1
  have hbB := hS.blk b (by rw [blocksOf_cons]; simp [Ent.row])
  have hS' := hS.drop
  have key : ∀ w' : World, w'.os = m.w.os → w'.tape = m.w.tape → w'.output = m.w.output → w'.heap.size = m.w.heap.size → (∀ q, w'.cell? q = m.w.cell? q) → (∀ k, k ≠ b → w'.heap[k]? = m.w.heap[k]?) → Post (.slice (some ⟨b, o0, none⟩) i c) w' := by
    intro w' h1 h2 h3 h4 h5 h6
    have hle : Le m ⟨w', m.ok⟩ := ⟨h1, h2, h3, Nat.le_of_eq h4.symm, fun b' o' hb' => ⟨⟨hb', by simpa [h4] using hb'.2⟩, h5 _⟩⟩
    refine hp ⟨w', m.ok⟩ hle ⟨hS'.le.trans hle, fun b' hb' hB => (h6 b' (fun e => by subst e; rcases hbB with h | h; exact hB h; omega)).trans (hS'.kept b' hb' hB), fun b' o' ho' => hS'.news b' o' ho'.1, ⟨hS'.ow.nodup, fun e' he' => e'.loc _ _ (hS'.ow.ok e' he') fun b' hb' => h6 b' (fun e => hbn (mem_blocksOf.2 ⟨e', he', e ▸ hb'⟩)), fun e' he' b' hb' o' hf hm => hS'.ow.apart e' he' b' hb' o' hf hm.1⟩, hS'.blk⟩
  have hrun : ∃ w', (convert t t (.slice (some ⟨b, o0, none⟩) i c)).run P m.w = .ok (.slice (some ⟨b, o0, none⟩) i c) w' ∧ Post (.slice (some ⟨b, o0, none⟩) i c) w' := by
    show ∃ w', (convert t t (.slice (some ⟨b, o0, none⟩) i c)).run P m.w = .ok (.slice (some ⟨b, o0, none⟩) i c) w' ∧ Post (.slice (some ⟨b, o0, none⟩) i c) w'
    simp only [convert, Sem.run_bind, run_underlying hu, run_underlying he, Result.andThen_ok, beq_self_eq_true, markStringish, Go.shape, Sem.run]
    cases hsh : m.w.shape? b with
    | none => exact ⟨m.w, rfl, key _ rfl rfl rfl rfl (fun _ => rfl) (fun _ _ => rfl)⟩
    | some p =>
      have hz : ∀ (w : World) (p : Addr) (n : Nat), (w.freeze p n).os = w.os ∧ (w.freeze p n).tape = w.tape ∧ (w.freeze p n).output = w.output := fun w p n => by unfold World.freeze; split <;> exact ⟨rfl, rfl, rfl⟩
      exact ⟨m.w.freeze ⟨b, p.2, none⟩ 1, rfl, key _ (hz _ _ _).1 (hz _ _ _).2.1 (hz _ _ _).2.2 (freeze_size _ _ _) (fun q => freeze_cell _ _ _ _) (fun k hk => freeze_other _ _ _ _ hk)⟩
  obtain ⟨w', h1, h2⟩ := hrun
  unfold StepTo execOp
  simp only [ho, hK.ev hx, Sem.run_bind, h1, Result.andThen_ok, Sem.run_pure]
  exact h2
theorem s_idxArr {b p n : Nat} {k : IntKind} {i : Int} (hT : P.underlying t = some (.array n e)) (hs : (P.info? e).map (·.size) = some 1) (hi : 0 ≤ i ∧ i < (n : Int)) (hK : Ke a K) (ho : o.op = .indexAddr t x y) (hx : evK K x = some (.pointer (some ⟨b, p, none⟩))) (hy : evK K y = some (.int k i))
    (hp : Post (.pointer (some ⟨b, i.toNat + p, none⟩)) m.w) : StepTo P o a m.w Post := by
  have hsz : (sizeOf e).run P m.w = .ok 1 m.w := by
    cases hi : P.info? e with
    | none => simp [hi] at hs
    | some inf => simp [hi] at hs; simp [sizeOf, typeInfo, hi, hs]
  unfold StepTo execOp
  simp only [ho, hK.ev hx, hK.ev hy, Instr.indexAt, asIntOf, Instr.sureAddr, Sem.run_bind, Sem.run_pure, Result.andThen_ok, run_underlying hT, hsz, hi, and_self, if_true, Nat.mul_one, Addr.add_mid]
  rw [Nat.add_comm]; exact hp
theorem run_quo {op : BinOp} {k : IntKind} {i j : Int} {ρ : Operand → Value} {ty ty' : TypeId} {v : Value} {w : World} (hj : ¬ j = 0) (ho : o.op = .binOp op ty x y ty') (hx : ρ x = .int k i) (hy : ρ y = .int k j) (hv : op = .quo ∧ v = .int k (k.wrap (i.tdiv j)) ∨ op = .rem ∧ v = .int k (i.tmod j)) : (execOp ρ o).run P w = .ok (.value v) w := by
  rcases hv with ⟨rfl, rfl⟩ | ⟨rfl, rfl⟩ <;> simp [execOp, ho, hx, hy, binOp, Op.intDiv, hj, eqGuard]
end
theorem run_shl {P : Program} {o : Oper} {x y : Operand} {k k' : IntKind} {i j : Int} {ρ : Operand → Value} {ty ty' : TypeId} {w : World} (hj : 0 ≤ j) (ho : o.op = .binOp .shl ty x y ty') (hx : ρ x = .int k i) (hy : ρ y = .int k' j) : (execOp ρ o).run P w = .ok (.value (.int k (ishl k i j))) w := by
  have h : ¬ j < 0 := by omega
  simp [execOp, ho, hx, hy, binOp, Op.shift, h, eqGuard, ishl]
theorem run_shr {P : Program} {o : Oper} {x y : Operand} {k k' : IntKind} {i j : Int} {ρ : Operand → Value} {ty ty' : TypeId} {w : World} (hj : 0 ≤ j) (ho : o.op = .binOp .shr ty x y ty') (hx : ρ x = .int k i) (hy : ρ y = .int k' j) : (execOp ρ o).run P w = .ok (.value (.int k (ishr k i j))) w := by
  have h : ¬ j < 0 := by omega
  simp [execOp, ho, hx, hy, binOp, Op.shift, h, eqGuard, ishr]
theorem conv8 {k : IntKind} (hk : (k == .i8) = false) (c : UInt8) : k.wrap (c.toNat : Int) = (c.toNat : Int) := by
  have := c.toNat_lt
  cases k <;> simp [IntKind.wrap, IntKind.bits, IntKind.signed] at hk ⊢ <;> omega
theorem conv8u (c : UInt8) : IntKind.u8.wrap (c.toNat : Int) = (c.toNat : Int) := conv8 rfl c
theorem u8_wrapped {y : Int} (h : ∃ x, y = IntKind.u8.wrap x) : y = ((u8 y).toNat : Int) := by
  obtain ⟨x, rfl⟩ := h; rw [u8_toNat, wu8]; omega
theorem fdiv_le (c j : Nat) : ((c : Int).fdiv (2 ^ j)) = ((c / 2 ^ j : Nat) : Int) := by
  rw [Int.fdiv_eq_ediv_of_nonneg _ (Int.le_of_lt (Int.pow_pos (by decide)))]; simp
theorem u8_shr (c : UInt8) (y : Int) : ishr .u8 (c.toNat : Int) y = ((u8 (ishr .u8 (c.toNat : Int) y)).toNat : Int) := by
  have hc := c.toNat_lt
  have h : ishr .u8 (c.toNat : Int) y = ((c.toNat / 2 ^ (min y.toNat 8) : Nat) : Int) := by unfold ishr; exact fdiv_le _ _
  have h2 : c.toNat / 2 ^ (min y.toNat 8) ≤ c.toNat := Nat.div_le_self _ _
  rw [h, u8_toNat]; generalize c.toNat / 2 ^ (min y.toNat 8) = q at *; omega
theorem run_neHash {P : Program} {t e : TypeId} {w : World} (hu : P.underlying t = some (.array 32 e)) (he : P.underlying e = some (.int .u8)) (hs : aggOf P e = some (false, 1)) (f g : Nat → UInt8) : (binOp .neq t (.agg (hcells f)) (.agg (hcells g))).run P w = .ok (.bool (!hashEq f g)) w := by
  have h := run_eqHash (w := w) hu he hs f g
  have h2 : ∀ xs ys : Array Value, (binOp .eql t (.agg xs) (.agg ys)).run P w = .ok (.bool (hashEq f g)) w → (binOp .neq t (.agg xs) (.agg ys)).run P w = .ok (.bool (!hashEq f g)) w := by
    intro xs ys h
    simp only [binOp, Sem.run_bind] at h ⊢
    cases hr : (Op.equal t (.agg xs) (.agg ys)).run P w with
    | ok b w' => rw [hr] at h; simp [Sem.run_pure, Result.andThen_ok] at h ⊢; obtain ⟨h1, h2⟩ := h; subst h1; exact ⟨rfl, h2⟩
    | halt x w' => rw [hr] at h; simp [Result.andThen] at h
  exact h2 _ _ h
def isNum (k : IntKind) (_ : Mem) (x : Int) (cs : List Value) : Prop := cs = [.int k x]
theorem rep_Num (k : IntKind) : Rep (isNum k) 1 := ⟨fun h _ => h, fun h => by rw [h]; rfl, fun h u hu => by rw [h] at hu; simp at hu; subst hu; rfl, by decide⟩
def isBo (_ : Mem) (x : Bool) (cs : List Value) : Prop := cs = [.bool x]
theorem rep_Bo : Rep isBo 1 := ⟨fun h _ => h, fun h => by rw [h]; rfl, fun h u hu => by rw [h] at hu; simp at hu; subst hu; rfl, by decide⟩
abbrev str (l : List UInt8) : ByteArray := ⟨l.toArray⟩
def isStr (_ : Mem) (x : List UInt8) (cs : List Value) : Prop := cs = [.string (str x)]
theorem rep_Str : Rep isStr 1 := ⟨fun h _ => h, fun h => by rw [h]; rfl, fun h u hu => by rw [h] at hu; simp at hu; subst hu; rfl, by decide⟩
def isSl {α : Type} (R : Mem → α → List Value → Prop) (sz : Nat) (m : Mem) (x : List α) (cs : List Value) : Prop := ∃ a c, cs = [.slice a x.length c] ∧ Els R m sz a c x
theorem rep_Sl {α : Type} {R : Mem → α → List Value → Prop} {sz : Nat} (h : Rep R sz) : Rep (isSl R sz) 1 :=
  ⟨fun ⟨a, c, h1, h2⟩ l => ⟨a, c, h1, Els.mono h h2 l⟩, fun ⟨a, c, h1, _⟩ => by rw [h1]; rfl, fun ⟨a, c, h1, _⟩ u hu => by rw [h1] at hu; simp at hu; subst hu; rfl, by decide⟩
namespace D
def isO (T : Option TypeId) (w : World) (b : Nat) : Prop := ∃ t, T = some t ∧ isT t w b
@[reducible] def _root_.Go.Proofs.Ythhmandpjlggcaa.Mem.upO (m : Mem) (T : Option TypeId) (w' : World) : Mem := ⟨w', fun b o => m.ok b o ∨ (m.w.heap.size ≤ b ∧ ¬ isO T w' b)⟩
theorem addO {T : TypeId} {B : List Nat} {m0 m m1 : Mem} {L0 L : List Ent} {b : Nat} {z : Array Value} (h0 : St B m0 m L0) (hm : m.upO (some T) m1.w = m1) (hlt : ∀ b ∈ blocksOf L, b < m.w.heap.size) (h : St B m0 m1 L) (hb : m.w.heap.size ≤ b ∧ m1.w.heap[b]? = some (.cells z T (0, 0))) : St B m0 m1 (.box b z T :: L) := by
  refine ⟨h.le, h.kept, h.news, ⟨?_, fun e he => ?_, fun e he c hc o ho hok => ?_⟩, fun c hc => ?_⟩
  · rw [blocksOf_cons]; simp only [Ent.box, List.singleton_append, List.nodup_cons]
    exact ⟨fun hm => by have := hlt b hm; omega, h.ow.nodup⟩
  · simp at he
    rcases he with rfl | he
    · exact hb.2
    · exact h.ow.ok e he
  · simp at he
    rcases he with rfl | he
    · simp [Ent.box] at hc; subst hc
      rw [← hm] at hok
      rcases hok.1 with h1 | h1
      · have := h1.2; omega
      · exact h1.2 ⟨T, rfl, z, (0, 0), hb.2⟩
    · exact h.ow.apart e he c hc o ho hok
  · rw [blocksOf_cons] at hc
    simp [Ent.box] at hc
    rcases hc with rfl | hc
    · exact .inr (Nat.le_trans h0.le.size hb.1)
    · exact h.blk c hc
end D
end Go.Proofs.Ythhmandpjlggcaa
