/- Rules by which a lifted function's walk goes: the hypothesis says that the plain function has a result. Over any program. -/
import Derived.Test.YthnhjibbkleneaaDraw
namespace Go.Proofs.Ythnhjibbkleneaa
open Go.RowKit G
section
variable {P : Program} {Q : Exit → Act → World → Prop} {rr : Option Nat} {n : Nat} {a : Act} {K : Kt} {ds : List Deferred} {w : World}
theorem w_join {x : Code} (J : Act → World → Prop) (hj : ∀ a w, J a w → Q .normal a w) (h : x.wpIn (FW rr) 0 P (Exit.then J Q) a w) : x.wpIn (FW rr) 0 P Q a w :=
  wpIn_mono h fun e a' w' hq => by cases e <;> first | exact hj _ _ hq | exact hq
theorem w_loopL {σ A : Type} {f : σ → Option (σ ⊕ A)} {s0 : σ} {r : A} {c : Code} (h : Iter f s0 = some r) (I : σ → Act → World → Prop) (h0 : I s0 a w)
    (round : ∀ k s x a w, I s a w → f s = some x → LoopNext f k r x → c.wpIn (FW rr) 0 P (Exit.then (fun a' w' => ∃ k', k' < k ∧ ∃ s', LoopN f k' s' r ∧ I s' a' w') Q) a w) : (Code.loop c).wpIn (FW rr) 0 P Q a w := by
  obtain ⟨k, hk⟩ := Iter_iff.1 h
  refine w_loop (fun k a w => ∃ s, LoopN f k s r ∧ I s a w) ⟨k, s0, hk, h0⟩ ?_
  rintro k a w ⟨s, hl, hI⟩
  cases k with
  | zero => exact hl.elim
  | succ k =>
    obtain ⟨x, hx, hl⟩ := hl
    refine round (k + 1) s x a w hI hx ?_
    cases x with
    | inl s' => exact ⟨k, Nat.lt_succ_self k, hl⟩
    | inr a => exact hl
theorem loop_go {σ A : Type} {f : σ → Option (σ ⊕ A)} {k : Nat} {r : A} {s' : σ} {I : σ → Act → World → Prop} (h : LoopNext f k r (.inl s')) (hI : I s' a w) : ∃ k', k' < k ∧ ∃ s', LoopN f k' s' r ∧ I s' a w := by
  obtain ⟨k', h1, h2⟩ := h; exact ⟨k', h1, s', h2, hI⟩
theorem loop_out {σ A : Type} {f : σ → Option (σ ⊕ A)} {k : Nat} {r b : A} (h : LoopNext f k r (.inr b)) : some b = some r := congrArg some h
theorem join_out {α β : Type} {F : α → Option β} {b r : β} (h : joinK (.inr b) F = some r) : some b = some r := h
theorem join_in {α β : Type} {F : α → Option β} {v : α} {r : β} (h : joinK (.inl v) F = some r) : F v = some r := h
theorem ite_tb {α : Type} {p q : Prop} [Decidable p] {x y r : α} (e : q → p) (hq : q) (h : (if p then x else y) = r) : x = r := ite_t (e hq) h
end
section
variable {P : Program} {o : Oper} {n : Nat} {a : Act} {K : Kt} {ds : List Deferred} {B : List Nat} {m0 m : Mem} {L : List Ent} {Post : Value → World → Prop} {x y z : Operand} {t e : TypeId} {α : Type} {R : Mem → α → List Value → Prop} {sz : Nat} {zv : Value} {bytes cap : Nat} {ad : Option Addr} {l l' : List α}
theorem s_idx {k : IntKind} {i : Int} {u : α} (hT : ElemT P t e zv sz bytes) (hE : Els R m sz ad cap l) (hx : idx l i = some u) (hK : Ke a K) (ho : o.op = .indexAddr t x y) (hxx : evK K x = some (.slice ad l.length cap)) (hy : evK K y = some (.int k i))
    (hp : ∀ b p cs, R m u cs → At m b p cs → Post (.pointer (some ⟨b, p, none⟩)) m.w) : StepTo P o a m.w Post := by
  obtain ⟨j, hij, hj⟩ := idx_some hx
  have hjl : j < l.length := (List.getElem?_eq_some_iff.1 hj).1
  have hu : l[j] = u := (List.getElem?_eq_some_iff.1 hj).2
  haveI : Inhabited α := ⟨u⟩
  refine s_index hT hE j hK ho hxx hy hij hjl fun b p cs hR hA => hp b p cs ?_ hA
  rw [getElem!_pos l j hjl, hu] at hR; exact hR
theorem s_slcFrom {k : IntKind} {i : Int} (hT : ElemT P t e zv sz bytes) (hE : Els R m sz ad cap l) (hx : slcFrom l i = some l') (hK : Ke a K) (ho : o.op = .slice t x (some y) none none) (hxx : evK K x = some (.slice ad l.length cap)) (hy : evK K y = some (.int k i))
    (hp : ∀ a' c', Els R m sz a' c' l' → Post (.slice a' l'.length c') m.w) : StepTo P o a m.w Post := by
  obtain ⟨j, hij, hj, rfl⟩ := slcFrom_some hx
  exact s_sliceFrom hT hE j hij hK ho hxx hy hj (hp _ _ (hE.from j hj))
theorem s_slcTo {k : IntKind} {i : Int} (hT : ElemT P t e zv sz bytes) (hE : Els R m sz ad cap l) (hx : slcTo l i = some l') (hK : Ke a K) (ho : o.op = .slice t x none (some y) none) (hxx : evK K x = some (.slice ad l.length cap)) (hy : evK K y = some (.int k i))
    (hp : ∀ a' c', Els R m sz a' c' l' → Post (.slice a' l'.length c') m.w) : StepTo P o a m.w Post := by
  obtain ⟨j, hij, hj, rfl⟩ := slcTo_some hx
  exact s_sliceTo hT hE j hij hK ho hxx hy hj (hp _ _ (hE.upto j hj))
theorem s_slcMid {k k' : IntKind} {i i' : Int} (hT : ElemT P t e zv sz bytes) (hE : Els R m sz ad cap l) (hx : slcMid l i i' = some l') (hK : Ke a K) (ho : o.op = .slice t x (some y) (some z) none) (hxx : evK K x = some (.slice ad l.length cap)) (hy : evK K y = some (.int k i)) (hz : evK K z = some (.int k' i'))
    (hp : ∀ a' c', Els R m sz a' c' l' → Post (.slice a' l'.length c') m.w) : StepTo P o a m.w Post := by
  obtain ⟨p, q, hip, hiq, hpq, hq, rfl⟩ := slcMid_some hx
  exact s_sliceMid hT hE p q hip hiq hK ho hxx hy hz ⟨hpq, hq⟩ (hp _ _ (hE.cut p q hpq hq))
theorem s_app {g : Option Nat} {cap2 : Nat} {l2 : List α} {a2 : Option Addr} (hT : ElemT P t e zv sz bytes) (hR : Rep R sz) (hx : app bytes l l2 = some l') (hK : Ke a K) (k : Nat) (hS : St B m0 m L) (hk : L[k]? = some (rowOf e sz g cap l)) (hE : Els R m sz (adr g) cap l) (hE2 : Els R m sz a2 cap2 l2)
    (ho : o.op = .call ⟨.builtin .append, #[x, y], #[t, t]⟩) (hxx : evK K x = some (.slice (adr g) l.length cap)) (hy : evK K y = some (.slice a2 l2.length cap2)) (hb : decide (1 ≤ bytes) = true)
    (hp : ∀ m' g' cap', Le m m' → St B m0 m' (rowOf e sz g' cap' l' :: L.eraseIdx k) → Els R m' sz (adr g') cap' l' → Post (.slice (adr g') l'.length cap') m'.w) : StepTo P o a m.w Post := by
  obtain ⟨h1, rfl⟩ := app_some hx
  have h2 : l.length + l2.length ≤ (l.length + l2.length) * bytes := Nat.le_mul_of_pos_right _ (of_decide_eq_true hb)
  exact s_append hT hR hK k hS hk hE hE2 ho hxx hy h1 hp (by unfold maxLen; omega)
theorem s_appNew {cap2 : Nat} {l2 : List α} {a2 : Option Addr} (hT : ElemT P t e zv sz bytes) (hR : Rep R sz) (hx : app bytes l l2 = some l') (hK : Ke a K) (hS : St B m0 m L) (hE : Els R m sz ad cap l) (hE2 : Els R m sz a2 cap2 l2)
    (ho : o.op = .call ⟨.builtin .append, #[x, y], #[t, t]⟩) (hxx : evK K x = some (.slice ad l.length cap)) (hy : evK K y = some (.slice a2 l2.length cap2)) (hb : decide (1 ≤ bytes) = true) (hfull : cap < l.length + l2.length)
    (hp : ∀ m' g' cap', Le m m' → St B m0 m' (rowOf e sz g' cap' l' :: L) → Els R m' sz (adr g') cap' l' → Post (.slice (adr g') l'.length cap') m'.w) : StepTo P o a m.w Post := by
  obtain ⟨hlen, rfl⟩ := app_some hx
  have h2 : l.length + l2.length ≤ (l.length + l2.length) * bytes := Nat.le_mul_of_pos_right _ (of_decide_eq_true hb)
  have h63 : l.length + l2.length ≤ maxLen := by unfold maxLen; omega
  obtain ⟨css, h1, h2, h4⟩ := hE
  obtain ⟨dss, k1, k2, k4⟩ := hE2
  have hone := cells_one hR k2 k4
  obtain ⟨f2, f4⟩ := els_append h2 h4 k2 k4
  have hll : (l ++ l2).length = l.length + l2.length := by simp
  obtain ⟨cap', cur, hrun, hcs, hge, hcm, htake⟩ := run_append_new (P := P) (ty := o.type) hT ad l.length cap _ h1 a2 l2.length cap2 _ k1 hone hlen h63 hfull
  have hg : Below m.w.heap.size m.w (m.w.drew.alloc (.cells cur e (0, 0))) := ((Below.refl _ _).drew).alloc (Nat.le_refl _) _
  have hb' : (m.w.drew.alloc (.cells cur e (0, 0))).heap[m.w.heap.size]? = some (.cells cur e (0, 0)) := heap_alloc_new m.w.drew _
  let X : Nat → Nat → Prop := fun c o => c = m.w.heap.size ∧ o < (l ++ l2).length * sz
  have hle : Le m ⟨m.w.drew.alloc (.cells cur e (0, 0)), fun c o => m.ok c o ∨ X c o⟩ :=
    ⟨rfl, rfl, rfl, Below.size hg, fun c o hc => ⟨⟨.inl hc, Nat.lt_of_lt_of_le hc.2 (Below.size hg)⟩, grow_cell hg hc.2⟩⟩
  have k : St [] m ⟨m.w.drew.alloc (.cells cur e (0, 0)), fun c o => m.ok c o ∨ X c o⟩ [rowOf e sz (some m.w.heap.size) cap' (l ++ l2)] := by
    refine ⟨hle, fun c hc _ => Below.block hg c hc, fun c o hc => ?_, ⟨by simp [rowOf, Ent.row], fun x hx => ?_, fun x hx c hc o ho hm => ?_⟩, fun c hc => ?_⟩
    · rcases hc.1 with h | h
      · exact .inl h
      · exact .inr (.inl (by rw [h.1]; exact Nat.le_refl _))
    · simp at hx; subst hx
      intro c hc; cases hc
      exact ⟨cur, hb', hcs⟩
    · simp at hx; subst hx
      simp [rowOf, Ent.row] at hc; subst hc
      have ho' : (l ++ l2).length * sz ≤ o := ho
      rcases hm.1 with h | h
      · exact absurd h.2 (by simp)
      · have h2 : o < (l ++ l2).length * sz := h.2
        omega
    · simp [rowOf, Ent.row] at hc; subst hc; exact .inr (Nat.le_refl _)
  have hE' : Els R ⟨m.w.drew.alloc (.cells cur e (0, 0)), fun c o => m.ok c o ∨ X c o⟩ sz (adr (some m.w.heap.size)) cap' (l ++ l2) := by
    refine ⟨css ++ dss, ⟨?_, by simpa using hge, hcm, (fun h => by cases h), fun j v hv => ⟨m.w.heap.size, 0, rfl, ⟨.inr ⟨rfl, ?_⟩, by simp⟩, ?_⟩⟩, f2, fun i x cs hx hc => ⟨(f4 i x cs hx hc).1, hR.mono (f4 i x cs hx hc).2 hle⟩⟩
    · simp only [List.flatten_append, List.length_append, h1.1, k1.1, Nat.add_mul]
    · have : j < (css ++ dss).flatten.length := (List.getElem?_eq_some_iff.1 hv).1
      simp only [List.flatten_append, List.length_append, h1.1, k1.1] at this
      rw [hll, Nat.add_mul]; omega
    · have hjl : j < (css ++ dss).flatten.length := (List.getElem?_eq_some_iff.1 hv).1
      simp only [List.flatten_append, List.length_append, h1.1, k1.1] at hjl
      rw [cell_of_row _ _ _ _ _ _ hb', Nat.zero_add, ← Array.getElem?_toList]
      have e1 : (cur.toList.take ((l.length + l2.length) * sz))[j]? = (css.flatten ++ dss.flatten)[j]? := by rw [htake]
      rw [List.getElem?_take, if_pos (by rw [Nat.add_mul]; omega)] at e1
      rw [e1, ← List.flatten_append]; exact hv
  unfold StepTo execOp
  simp only [ho, resolve, invoke, builtin, Sem.run_bind, Sem.run_pure, Result.andThen_ok, List.map_toArray, List.map_cons, List.map_nil, hK.ev hxx, hK.ev hy, hrun]
  have := hp _ (some m.w.heap.size) cap' hle (hS.call k) hE'
  rw [hll] at this
  exact this
theorem s_stringishRow {b T size nn i c : Nat} (hK : Ke a K) (hS : St B m0 m (.row (some b) T size nn :: L)) (ho : o.op = .convert t t x) (hx : evK K x = some (.slice (adr (some b)) i c)) (hu : P.underlying t = some (.slice e)) (he : P.underlying e = some (.int .u8))
    (hp : ∀ m', Le m m' → St B m0 m' L → Post (.slice (adr (some b)) i c) m'.w) : StepTo P o a m.w Post := by
  have hbn : b ∉ blocksOf L := by
    have := hS.ow.nodup; rw [blocksOf_cons] at this
    simp [Ent.row] at this; exact this.1
  have hbB := hS.blk b (by rw [blocksOf_cons]; simp [Ent.row])
  have hS' := hS.drop
  have key : ∀ w' : World, w'.os = m.w.os → w'.tape = m.w.tape → w'.output = m.w.output → w'.heap.size = m.w.heap.size → (∀ q, w'.cell? q = m.w.cell? q) → (∀ k, k ≠ b → w'.heap[k]? = m.w.heap[k]?) → Post (.slice (adr (some b)) i c) w' := by
    intro w' h1 h2 h3 h4 h5 h6
    have hle : Le m ⟨w', m.ok⟩ := ⟨h1, h2, h3, Nat.le_of_eq h4.symm, fun b' o' hb' => ⟨⟨hb', by simpa [h4] using hb'.2⟩, h5 _⟩⟩
    refine hp ⟨w', m.ok⟩ hle ⟨hS'.le.trans hle, fun b' hb' hB => (h6 b' (fun e => by subst e; rcases hbB with h | h; exact hB h; omega)).trans (hS'.kept b' hb' hB), fun b' o' ho' => hS'.news b' o' ho'.1, ⟨hS'.ow.nodup, fun e' he' => e'.loc _ _ (hS'.ow.ok e' he') fun b' hb' => h6 b' (fun e => hbn (mem_blocksOf.2 ⟨e', he', e ▸ hb'⟩)), fun e' he' b' hb' o' hf hm => hS'.ow.apart e' he' b' hb' o' hf hm.1⟩, hS'.blk⟩
  have hrun : ∃ w', (convert t t (.slice (adr (some b)) i c)).run P m.w = .ok (.slice (adr (some b)) i c) w' ∧ Post (.slice (adr (some b)) i c) w' := by
    show ∃ w', (convert t t (.slice (some ⟨b, 0, none⟩) i c)).run P m.w = .ok (.slice (some ⟨b, 0, none⟩) i c) w' ∧ Post (.slice (some ⟨b, 0, none⟩) i c) w'
    simp only [convert, Sem.run_bind, run_underlying hu, run_underlying he, Result.andThen_ok, beq_self_eq_true, markStringish, Go.shape, Sem.run]
    cases hsh : m.w.shape? b with
    | none => exact ⟨m.w, rfl, key _ rfl rfl rfl rfl (fun _ => rfl) (fun _ _ => rfl)⟩
    | some p =>
      have hz : ∀ (w : World) (p : Addr) (n : Nat), (w.freeze p n).os = w.os ∧ (w.freeze p n).tape = w.tape ∧ (w.freeze p n).output = w.output := fun w p n => by unfold World.freeze; split <;> exact ⟨rfl, rfl, rfl⟩
      exact ⟨m.w.freeze ⟨b, p.2, none⟩ 1, rfl, key _ (hz _ _ _).1 (hz _ _ _).2.1 (hz _ _ _).2.2 (freeze_size _ _ _) (fun q => freeze_cell _ _ _ _) (fun k hk => freeze_other _ _ _ _ hk)⟩
  obtain ⟨w', h1, h2⟩ := hrun
  unfold StepTo execOp
  simp only [ho, hK.ev hx, Sem.run_bind, h1, Result.andThen_ok, Sem.run_pure]
  exact h2
/-! Arrays in a block of the call's own. -/
theorem s_idxArr {b p n : Nat} {k : IntKind} {i : Int} (hT : P.underlying t = some (.array n e)) (hs : (P.info? e).map (·.size) = some 1) (hi : 0 ≤ i ∧ i < (n : Int)) (hK : Ke a K) (ho : o.op = .indexAddr t x y) (hx : evK K x = some (.pointer (some ⟨b, p, none⟩))) (hy : evK K y = some (.int k i))
    (hp : Post (.pointer (some ⟨b, i.toNat + p, none⟩)) m.w) : StepTo P o a m.w Post := by
  have hsz : (sizeOf e).run P m.w = .ok 1 m.w := by
    cases hi : P.info? e with
    | none => simp [hi] at hs
    | some inf => simp [hi] at hs; simp [sizeOf, typeInfo, hi, hs]
  unfold StepTo execOp
  simp only [ho, hK.ev hx, hK.ev hy, Instr.indexAt, asIntOf, Instr.sureAddr, Sem.run_bind, Sem.run_pure, Result.andThen_ok, run_underlying hT, hsz, hi, and_self, if_true, Nat.mul_one, Addr.add_mid]
  rw [Nat.add_comm]; exact hp
theorem arr_get {pre post : List Value} {mk : α → Value} {f : Nat → α} {n : Nat} {i : Int} (hi : 0 ≤ i ∧ i < (n : Int)) : ((pre ++ (List.range n).map (fun q => mk (f q)) ++ post).toArray)[i.toNat + pre.length]? = some (mk (getArr f i)) := by
  have h : i.toNat < n := by omega
  simp only [List.getElem?_toArray]
  rw [List.append_assoc, List.getElem?_append_right (by omega), Nat.add_sub_cancel, List.getElem?_append_left (by simpa using h)]
  simp [getArr, h]
theorem s_loadArr {b p n : Nat} {cs : Array Value} {T : TypeId} {pre post : List Value} {f : Nat → α} {i : Int} (mk : α → Value) (hi : 0 ≤ i ∧ i < (n : Int)) (hK : Ke a K) (hS : St B m0 m L) (k : Nat) (ho : o.op = .load t x) (hx : evK K x = some (.pointer (some ⟨b, i.toNat + p, none⟩))) (hk : L[k]? = some (.box b cs T))
    (hcs : cs = (pre ++ (List.range n).map (fun q => mk (f q)) ++ post).toArray) (hp0 : pre.length = p) (hT : aggOf P t = some (false, 1)) (hp : Post (mk (getArr f i)) m.w) : StepTo P o a m.w Post := by
  subst hp0
  exact s_load hK hS k ho hx hk (by rw [hcs]; exact arr_get hi) hT hp
theorem set_arr {mk : α → Value} {f : Nat → α} {n : Nat} {i : Int} (hi : 0 ≤ i ∧ i < (n : Int)) (u : α) : ((List.range n).map (fun q => mk (f q))).set i.toNat (mk u) = (List.range n).map (fun q => mk (setArr f i u q)) := by
  apply List.ext_getElem?
  intro j
  rw [List.getElem?_set]
  by_cases h : i.toNat = j
  · subst h
    have h1 : i.toNat < n := by omega
    have h2 : ((i.toNat : Nat) : Int) = i := by omega
    simp [h1, setArr, h2]
  · have h2 : ((j : Nat) : Int) ≠ i := by omega
    rw [if_neg h]
    by_cases h1 : j < n
    · simp [h1, setArr, h2]
    · simp [h1]
theorem put_arr {pre post : List Value} {mk : α → Value} {f : Nat → α} {n : Nat} {i : Int} (hi : 0 ≤ i ∧ i < (n : Int)) (u : α) : putAt (pre ++ (List.range n).map (fun q => mk (f q)) ++ post).toArray (i.toNat + pre.length) [mk u] = (pre ++ (List.range n).map (fun q => mk (setArr f i u q)) ++ post).toArray := by
  have h : i.toNat < n := by omega
  unfold putAt
  congr 1
  have e : ∀ (l : List Value) (k : Nat) (v : Value), k < l.length → l.take k ++ [v] ++ l.drop (k + [v].length) = l.set k v := fun l k v hk => by
    rw [List.set_eq_take_append_cons_drop, if_pos hk]; simp
  show List.take _ _ ++ [mk u] ++ List.drop _ _ = _
  rw [e _ _ _ (by simp; omega), ← set_arr hi u, List.append_assoc, List.set_append, if_neg (by omega), Nat.add_sub_cancel, List.set_append, if_pos (by simpa using h), List.append_assoc]
theorem s_storeArr {b p n : Nat} {cs : Array Value} {T : TypeId} {pre post : List Value} {f : Nat → α} {i : Int} {u : α} (mk : α → Value) (hmk : ∀ u, (mk u).cells = #[mk u] ∧ (mk u).oneCell' = true) (hi : 0 ≤ i ∧ i < (n : Int)) (hK : Ke a K) (k : Nat) (hS : St B m0 m L) (ho : o.op = .store t x y) (hx : evK K x = some (.pointer (some ⟨b, i.toNat + p, none⟩))) (hy : evK K y = some (mk u)) (hk : L[k]? = some (.box b cs T))
    (hcs : cs = (pre ++ (List.range n).map (fun q => mk (f q)) ++ post).toArray) (hp0 : pre.length = p) (hT : aggOf P t = some (false, 1))
    (hp : ∀ m', Le m m' → St B m0 m' (.box b (pre ++ (List.range n).map (fun q => mk (setArr f i u q)) ++ post).toArray T :: L.eraseIdx k) → Post undef m'.w) : StepTo P o a m.w Post := by
  subst hp0
  have hc := (hmk u).1
  have hsz : cs.size = pre.length + n + post.length := by rw [hcs]; simp; omega
  have h : i.toNat < n := by omega
  obtain ⟨w', h2, h3, h4, h5⟩ := run_storeN (P := P) (t := t) (v := mk u) (i := i.toNat + pre.length) (hS.boxAt k hk) (by rw [hT, hc]; rfl) (by rw [hc, hsz]; simp; omega) (by rw [hc]; simp [(hmk u).2])
  have hput : putAt cs (i.toNat + pre.length) (mk u).cells.toList = (pre ++ (List.range n).map (fun q => mk (setArr f i u q)) ++ post).toArray := by
    rw [hc, hcs]; exact put_arr hi u
  rw [hput] at h5
  have hS1 := hS.front k hk
  have hS2 := hS1.write h3 h4 h5
  have hr : St (blocksOf (Ent.box b cs T :: L.eraseIdx k)) m ⟨w', m.ok⟩ _ := (St.refl hS1.ow).write h3 h4 h5
  unfold StepTo execOp
  simp only [ho, hK.ev hx, hK.ev hy, Instr.storeAt, Instr.sureAddr, Sem.run_bind, Sem.run_pure, Result.andThen_ok, h2]
  exact hp ⟨w', m.ok⟩ hr.le hS2
/-- A block that nobody writes any more. -/
theorem St.freeze {b : Nat} {cs : Array Value} {T : TypeId} (h : St B m0 m (.box b cs T :: L)) : ∃ m' : Mem, m'.w = m.w ∧ Le m m' ∧ St B m0 m' L ∧ At m' b 0 cs.toList := by
  have hb : m.w.heap[b]? = some (.cells cs T (0, 0)) := h.ow.ok _ (List.mem_cons_self ..)
  let X : Nat → Nat → Prop := fun c _ => c = b
  have k := h.give (e' := .row none T 0 0) X (fun c o hc => by simp [Ent.box]; exact hc) (fun c hc => by cases hc) (fun c hc => by simp [Ent.row] at hc) (by simp [Ent.row]) (fun c hc => by simp [Ent.row] at hc)
  refine ⟨m.give X, rfl, Le.give m X, k.drop, fun j v hv => ⟨⟨.inr rfl, heap_lt hb⟩, ?_⟩⟩
  rw [Nat.zero_add]
  show m.w.cell? _ = _
  rw [cell_of_row _ _ _ _ _ _ hb]; simpa using hv
theorem els_arr {b p n : Nat} {cs : List Value} {f : Nat → UInt8} (hA : At m b 0 cs) (hc : (cs.drop p).take n = (List.range n).map (fun q => U8 (f q))) (hn : n ≤ maxLen) : Els isU8 m 1 (some ⟨b, p, none⟩) n (arrL n f) := by
  have hfl : ∀ l : List UInt8, (l.map fun c => [U8 c]).flatten = l.map U8 := fun l => by induction l with | nil => rfl | cons c l ih => simp [ih]
  refine Els.of_at rep_U8 (css := (arrL n f).map fun c => [U8 c]) (by simp) (fun i x c hx hcs => ?_) ?_ (by simp [arrL]) hn
  · rw [List.getElem?_map, hx] at hcs; simp at hcs; exact hcs.symm
  · rw [hfl]
    intro j v hv
    have e : (arrL n f).map U8 = (cs.drop p).take n := by rw [hc]; simp [arrL]
    rw [e, List.getElem?_take] at hv
    split at hv
    · rw [List.getElem?_drop] at hv
      have := hA (p + j) v hv
      rwa [Nat.zero_add] at this
    · cases hv
theorem run_quo {op : BinOp} {k : IntKind} {i j : Int} {ρ : Operand → Value} {ty ty' : TypeId} {v : Value} {w : World} (hj : ¬ j = 0) (ho : o.op = .binOp op ty x y ty') (hx : ρ x = .int k i) (hy : ρ y = .int k j) (hv : op = .quo ∧ v = .int k (k.wrap (i.tdiv j)) ∨ op = .rem ∧ v = .int k (i.tmod j)) : (execOp ρ o).run P w = .ok (.value v) w := by
  rcases hv with ⟨rfl, rfl⟩ | ⟨rfl, rfl⟩ <;> simp [execOp, ho, hx, hy, binOp, Op.intDiv, hj, eqGuard]
end
theorem run_shl {P : Program} {o : Oper} {x y : Operand} {k k' : IntKind} {i j : Int} {ρ : Operand → Value} {ty ty' : TypeId} {w : World} (hj : 0 ≤ j) (ho : o.op = .binOp .shl ty x y ty') (hx : ρ x = .int k i) (hy : ρ y = .int k' j) : (execOp ρ o).run P w = .ok (.value (.int k (ishl k i j))) w := by
  have h : ¬ j < 0 := by omega
  simp [execOp, ho, hx, hy, binOp, Op.shift, h, eqGuard, ishl]
theorem run_shr {P : Program} {o : Oper} {x y : Operand} {k k' : IntKind} {i j : Int} {ρ : Operand → Value} {ty ty' : TypeId} {w : World} (hj : 0 ≤ j) (ho : o.op = .binOp .shr ty x y ty') (hx : ρ x = .int k i) (hy : ρ y = .int k' j) : (execOp ρ o).run P w = .ok (.value (.int k (ishr k i j))) w := by
  have h : ¬ j < 0 := by omega
  simp [execOp, ho, hx, hy, binOp, Op.shift, h, eqGuard, ishr]
theorem not_false_of {b : Bool} (h : b = true) : ¬ b = false := by simp [h]
theorem ne_true_of_eq_false {b : Bool} (h : b = false) : ¬ b = true := by simp [h]
theorem conv8 {k : IntKind} (hk : (k == .i8) = false) (c : UInt8) : k.wrap (c.toNat : Int) = (c.toNat : Int) := by
  have := c.toNat_lt
  cases k <;> simp [IntKind.wrap, IntKind.bits, IntKind.signed] at hk ⊢ <;> omega
theorem conv8u (c : UInt8) : IntKind.u8.wrap (c.toNat : Int) = (c.toNat : Int) := conv8 rfl c
theorem wrap_wrap (k : IntKind) (x : Int) : k.wrap (k.wrap x) = k.wrap x := by
  cases k <;> simp only [IntKind.wrap, IntKind.bits, IntKind.signed] <;> simp <;> (repeat' split) <;> omega
theorem u8_wrapped {y : Int} (h : ∃ x, y = IntKind.u8.wrap x) : y = ((u8 y).toNat : Int) := by
  obtain ⟨x, rfl⟩ := h; rw [u8_toNat, wu8]; omega
theorem fdiv_le (c j : Nat) : ((c : Int).fdiv (2 ^ j)) = ((c / 2 ^ j : Nat) : Int) := by
  rw [Int.fdiv_eq_ediv_of_nonneg _ (Int.le_of_lt (Int.pow_pos (by decide)))]; simp
theorem u8_shr (c : UInt8) (y : Int) : ishr .u8 (c.toNat : Int) y = ((u8 (ishr .u8 (c.toNat : Int) y)).toNat : Int) := by
  have hc := c.toNat_lt
  have h : ishr .u8 (c.toNat : Int) y = ((c.toNat / 2 ^ (min y.toNat 8) : Nat) : Int) := by unfold ishr; exact fdiv_le _ _
  have h2 : c.toNat / 2 ^ (min y.toNat 8) ≤ c.toNat := Nat.div_le_self _ _
  rw [h, u8_toNat]; generalize c.toNat / 2 ^ (min y.toNat 8) = q at *; omega
theorem copy_arr (f : Nat → UInt8) (l : List UInt8) : putAt (hcells f) 0 ((l.take 32).map U8) = hcells (cpArr 32 f l) := by
  unfold putAt hcells
  congr 1
  apply List.ext_getElem?
  intro j
  simp only [List.take_zero, List.nil_append, Nat.zero_add, List.length_map, List.length_take, List.getElem?_append, List.getElem?_map, List.getElem?_drop, List.getElem?_range, List.getElem?_take, cpArr]
  by_cases h32 : j < 32
  · by_cases hj : j < l.length
    · have h1 : j < min 32 l.length := by omega
      simp [h32, hj, h1, List.getD, List.getElem?_eq_getElem hj]
    · have h1 : ¬ j < min 32 l.length := by omega
      have h2 : min 32 l.length = l.length := by omega
      simp [h32, hj, h1, h2, show l.length + (j - l.length) = j by omega]
  · have h1 : ¬ j < min 32 l.length := by omega
    simp [h32, h1]; omega
theorem run_neHash {P : Program} {t e : TypeId} {w : World} (hu : P.underlying t = some (.array 32 e)) (he : P.underlying e = some (.int .u8)) (hs : aggOf P e = some (false, 1)) (f g : Nat → UInt8) : (binOp .neq t (.agg (hcells f)) (.agg (hcells g))).run P w = .ok (.bool (!hashEq f g)) w := by
  have h := run_eqHash (w := w) hu he hs f g
  have h2 : ∀ xs ys : Array Value, (binOp .eql t (.agg xs) (.agg ys)).run P w = .ok (.bool (hashEq f g)) w → (binOp .neq t (.agg xs) (.agg ys)).run P w = .ok (.bool (!hashEq f g)) w := by
    intro xs ys h
    simp only [binOp, Sem.run_bind] at h ⊢
    cases hr : (Op.equal t (.agg xs) (.agg ys)).run P w with
    | ok b w' => rw [hr] at h; simp [Sem.run_pure, Result.andThen_ok] at h ⊢; obtain ⟨h1, h2⟩ := h; subst h1; exact ⟨rfl, h2⟩
    | halt x w' => rw [hr] at h; simp [Result.andThen] at h
  exact h2 _ _ h
section
variable {P : Program} {ops : Array Oper} {o : Oper} {n : Nat} {a : Act} {K : Kt} {ds : List Deferred} {w : World} {rest : List Oper} {Q : Exit → Act → World → Prop} {rr : Option Nat}
theorem qp (d : Nat) (v : Value) (hK : Kn n a K ds) (next : ∀ a', Kn n a' ((d, v) :: K) ds → wpListIn (FW rr) 0 P ops Q rest a' w) (hc : okOp ops o K n d = true := by kernel_rfl) (hk : known K o.op = true := by kernel_rfl) (h : (execOp (evD K) o).run P w = .ok (.value v) w := by kernel_rfl) : wpListIn (FW rr) 0 P ops Q (o :: rest) a w := q_pure d v hK hc hk h next
theorem qr (d : Nat) (v : Value) (hK : Kn n a K ds) (h : (execOp (evD K) o).run P w = .ok (.value v) w) (next : ∀ a', Kn n a' ((d, v) :: K) ds → wpListIn (FW rr) 0 P ops Q rest a' w) (hc : okOp ops o K n d = true := by kernel_rfl) (hk : known K o.op = true := by kernel_rfl) : wpListIn (FW rr) 0 P ops Q (o :: rest) a w := q_pure d v hK hc hk h next
theorem qe (d : Nat) (v u : Value) (hK : Kn n a K ds) (e : u = v) (next : ∀ a', Kn n a' ((d, v) :: K) ds → wpListIn (FW rr) 0 P ops Q rest a' w) (hc : okOp ops o K n d = true := by kernel_rfl) (hk : known K o.op = true := by kernel_rfl) (h : (execOp (evD K) o).run P w = .ok (.value u) w := by kernel_rfl) : wpListIn (FW rr) 0 P ops Q (o :: rest) a w := q_pureE d v u hK hc hk h e next
theorem qo (d : Nat) (hK : Kn n a K ds) (h : StepTo P o a w fun v w' => ∀ a', Kn n a' ((d, v) :: K) ds → wpListIn (FW rr) 0 P ops Q rest a' w') (hc : okOp ops o K n d = true := by kernel_rfl) : wpListIn (FW rr) 0 P ops Q (o :: rest) a w := q_op d hK hc h
theorem qo0 (hK : Kn n a K ds) (h : StepTo P o a w fun _ w' => ∀ a', Kn n a' K ds → wpListIn (FW rr) 0 P ops Q rest a' w') (hc : okOp0 ops o K = true := by kernel_rfl) : wpListIn (FW rr) 0 P ops Q (o :: rest) a w := q_op0 hK hc h
theorem qs (d : Nat) (hK : Kn n a K ds) (h : ∀ a', Kn n a' ((d, undef) :: K) ds → wpListIn (FW rr) 0 P ops Q rest a' w) (hc : okSkip ops o K n d = true := by kernel_rfl) : wpListIn (FW rr) 0 P ops Q (o :: rest) a w := q_skip d hK hc h
end
/-- Numbers of a kind. -/
def isNum (k : IntKind) (_ : Mem) (x : Int) (cs : List Value) : Prop := cs = [.int k x]
theorem rep_Num (k : IntKind) : Rep (isNum k) 1 := ⟨fun h _ => h, fun h => by rw [h]; rfl, fun h u hu => by rw [h] at hu; simp at hu; subst hu; rfl, by decide⟩
def isBo (_ : Mem) (x : Bool) (cs : List Value) : Prop := cs = [.bool x]
theorem rep_Bo : Rep isBo 1 := ⟨fun h _ => h, fun h => by rw [h]; rfl, fun h u hu => by rw [h] at hu; simp at hu; subst hu; rfl, by decide⟩
/-- Strings, as the list of their bytes. -/
abbrev str (l : List UInt8) : ByteArray := ⟨l.toArray⟩
def isStr (_ : Mem) (x : List UInt8) (cs : List Value) : Prop := cs = [.string (str x)]
theorem rep_Str : Rep isStr 1 := ⟨fun h _ => h, fun h => by rw [h]; rfl, fun h u hu => by rw [h] at hu; simp at hu; subst hu; rfl, by decide⟩
/-- Slices of slices. -/
def isSl {α : Type} (R : Mem → α → List Value → Prop) (sz : Nat) (m : Mem) (x : List α) (cs : List Value) : Prop := ∃ a c, cs = [.slice a x.length c] ∧ Els R m sz a c x
theorem rep_Sl {α : Type} {R : Mem → α → List Value → Prop} {sz : Nat} (h : Rep R sz) : Rep (isSl R sz) 1 :=
  ⟨fun ⟨a, c, h1, h2⟩ l => ⟨a, c, h1, Els.mono h h2 l⟩, fun ⟨a, c, h1, _⟩ => by rw [h1]; rfl, fun ⟨a, c, h1, _⟩ u hu => by rw [h1] at hu; simp at hu; subst hu; rfl, by decide⟩
namespace D
section
variable {P : Program} {ops : Array Oper} {Q : Exit → Act → World → Prop} {rr : Option Nat} {a0 : Act} {S : Nat → World → Prop} {N : Nat} {tail : List Oper} {o : Oper} {rest : List Oper} {ps : List (Tmp × Option Nat)} {lo hi : Nat} {plan : Plan} {rs : Rs} {Gr : World → World → Prop} {hG : ∀ w, Gr w w}
/-- An operation whose value is known ahead. -/
theorem on_pure (hG : ∀ w, Gr w w) (Kx : Kt) (v : Value) (hke : ∀ a w, Ks a0 rs a w ps → Ke a Kx) (hr : Walk (rr := rr) P ops Gr S N a0 Q tail rest plan ((fun u _ => u = v) :: rs)) (hw : guardYes ops Kx o.guard = true := by kernel_rfl) (hk : known Kx o.op = true := by kernel_rfl) (h : ∀ w, (execOp (evD Kx) o).run P w = .ok (.value v) w := by intro w; kernel_rfl) :
    Walk (rr := rr) P ops Gr S N a0 Q tail (o :: rest) ((ps, lo, hi, false) :: plan) rs :=
  on_op (fun u _ => u = v) (fun _ _ _ h _ => h) (fun a w k _ _ hb hks => ⟨wantedE (hke a w hks) hw, s_pure v (hke a w hks) hk (h w) ⟨rfl, hG w, hb⟩⟩) hr
/-- An operation whose value is known ahead, by any rule. -/
theorem on_det (hG : ∀ w, Gr w w) (Kx : Kt) (v : Value) (hke : ∀ a w, Ks a0 rs a w ps → Ke a Kx) (hs : ∀ a w k, S k w → Ke a Kx → ∀ Post : Value → World → Prop, Post v w → StepTo P o a w Post) (hr : Walk (rr := rr) P ops Gr S N a0 Q tail rest plan ((fun u _ => u = v) :: rs)) (hw : guardYes ops Kx o.guard = true := by kernel_rfl) :
    Walk (rr := rr) P ops Gr S N a0 Q tail (o :: rest) ((ps, lo, hi, false) :: plan) rs :=
  on_op (fun u _ => u = v) (fun _ _ _ h _ => h) (fun a w k _ _ hb hks => ⟨wantedE (hke a w hks) hw, hs a w k hb (hke a w hks) _ ⟨rfl, hG w, hb⟩⟩) hr
theorem on_no (Kx : Kt) (hke : ∀ a w, Ks a0 rs a w ps → Ke a Kx) (hr : Walk (rr := rr) P ops Gr S N a0 Q tail rest plan ((fun u _ => u = undef) :: rs)) (hw : guardNo ops Kx o.guard = true := by kernel_rfl) : Walk (rr := rr) P ops Gr S N a0 Q tail (o :: rest) ((ps, lo, hi, false) :: plan) rs :=
  on_skip (fun a w k _ _ _ hks => unwantedE (hke a w hks) hw) hr
end
/-! Drawn regions once more: with what is known at each stage, and with blocks of a type that the region makes for itself. -/
def isO (T : Option TypeId) (w : World) (b : Nat) : Prop := ∃ t, T = some t ∧ isT t w b
@[reducible] def _root_.Go.Proofs.Ythnhjibbkleneaa.Mem.upO (m : Mem) (T : Option TypeId) (w' : World) : Mem := ⟨w', fun b o => m.ok b o ∨ (m.w.heap.size ≤ b ∧ ¬ isO T w' b)⟩
abbrev GO (m : Mem) (T : Option TypeId) (w w' : World) : Prop := Le (m.upO T w) (m.upO T w') ∧ ∀ b, m.w.heap.size ≤ b → b < w.heap.size → w'.heap[b]? = w.heap[b]?
theorem GO_refl (m : Mem) (T : Option TypeId) (w : World) : GO m T w w := ⟨Le.refl _, fun _ _ _ => rfl⟩
def SO (T : Option TypeId) (B : List Nat) (m0 m : Mem) (L : Nat → List Ent) (F : Nat → Prop) : Nat → World → Prop := fun k w => Le m (m.upO T w) ∧ St B m0 (m.upO T w) (L k) ∧ F k
section
variable {T : Option TypeId} {B : List Nat} {m0 m m' : Mem} {L L' : List Ent} {w : World}
theorem le_upO_of (h : Le m m') : Le m (m.upO T m'.w) :=
  ⟨h.os, h.tape, h.output, h.size, fun b o hb => ⟨⟨.inl hb, Nat.lt_of_lt_of_le hb.2 h.size⟩, (h.same b o hb).2⟩⟩
theorem reupO (h : St B m0 m L) (h' : St B m0 m' L') (hl : Le m m') (hlt : ∀ b ∈ blocksOf L', b < m.w.heap.size) : St B m0 (m.upO T m'.w) L' := by
  refine ⟨h.le.trans (le_upO_of hl), fun b hb hB => h'.kept b hb hB, fun b o ho => ?_, ⟨h'.ow.nodup, fun e he => h'.ow.ok e he, fun e he b hb o hf hm => ?_⟩, h'.blk⟩
  · rcases ho.1 with h1 | h1
    · exact h.news b o h1
    · exact .inr (.inl (Nat.le_trans h.le.size h1.1))
  · rcases hm.1 with h1 | h1
    · exact h'.ow.apart e he b hb o hf (hl.same b o h1).1
    · have := hlt b (mem_blocksOf.2 ⟨e, he, hb⟩); omega
theorem startO {F : Nat → Prop} {Lk : Nat → List Ent} (h : St B m0 m (Lk 0)) (hF : F 0) : SO T B m0 m Lk F 0 m.w.drew := by
  obtain ⟨h1, h2⟩ := start h
  exact ⟨le_upO_of h1, reupO h h2 h1 (fun b hb => h.ow.lt hb), hF⟩
theorem go_of (h : Le (m.upO T w) m') (hk : ∀ b, m.w.heap.size ≤ b → b < w.heap.size → m'.w.heap[b]? = w.heap[b]?) : GO m T w m'.w :=
  ⟨⟨h.os, h.tape, h.output, h.size, fun b o hb => ⟨⟨hb.1.imp id fun h1 => ⟨h1.1, fun ⟨t, ht, cs, c, hc⟩ => h1.2 ⟨t, ht, cs, c, by rw [← hk b h1.1 hb.2]; exact hc⟩⟩, Nat.lt_of_lt_of_le hb.2 h.size⟩, (h.same b o hb).2⟩⟩, hk⟩
theorem le_upO_up {L'' : List Ent} (h : St [] (m.upO none w) m' L'') (hl : m.w.heap.size ≤ w.heap.size) : Le m' (m.upO none m'.w) :=
  ⟨rfl, rfl, rfl, Nat.le_refl _, fun b o ho => ⟨⟨(h.news b o ho).elim (fun h1 => h1.1.imp id fun h2 => ⟨h2.1, fun ⟨_, h3, _⟩ => by cases h3⟩) (fun h1 => h1.elim (fun h1 => .inr ⟨Nat.le_trans hl h1, fun ⟨_, h3, _⟩ => by cases h3⟩) (fun h1 => absurd h1 (by simp))), ho.2⟩, rfl⟩⟩
end
theorem le_upMO {B : List Nat} {m0 m m' : Mem} {w : World} {L : List Ent} {b : Nat} {cs cs' : Array Value} {T T' : TypeId} (hnw : ∀ b' o, m'.ok b' o → (m.upO none w).ok b' o ∨ w.heap.size ≤ b' ∨ b' ∈ blocksOf [Ent.box b cs T]) (hsz : m.w.heap.size ≤ w.heap.size) (hS : St B m0 m' (Ent.box b cs' T' :: L)) : Le m' (m.upO none m'.w) :=
  ⟨rfl, rfl, rfl, Nat.le_refl _, fun b' o ho => ⟨⟨(hnw b' o ho).elim (fun h => h.1.imp id fun h2 => ⟨h2.1, fun ⟨_, h3, _⟩ => by cases h3⟩) (fun h => h.elim (fun h => .inr ⟨Nat.le_trans hsz h, fun ⟨_, h3, _⟩ => by cases h3⟩) (fun h => absurd ho (by
    simp [Ent.box] at h; subst h
    exact hS.ow.apart (.box b' cs' T') (by simp) b' (by simp [Ent.box]) o trivial))), ho.2⟩, rfl⟩⟩
theorem finO {T : Option TypeId} {B : List Nat} {m0 m : Mem} {Lk : Nat → List Ent} {F : Nat → Prop} {N : Nat} {ops : Array Oper} {rs : Rs} {a0 : Act} {X : Act → World → Prop}
    (h : ∀ a m1, m.upO T m1.w = m1 → Le m m1 → St B m0 m1 (Lk N) → F N → Ends ops rs a0 a m1.w → X a m1.w) : ∀ a w, SO T B m0 m Lk F N w → Ends ops rs a0 a w → X a w :=
  fun a w hb hE => h a (m.upO T w) rfl hb.1 hb.2.1 hb.2.2 hE
theorem addO {T : TypeId} {B : List Nat} {m0 m m1 : Mem} {L0 L : List Ent} {b : Nat} {z : Array Value} (h0 : St B m0 m L0) (hm : m.upO (some T) m1.w = m1) (hlt : ∀ b ∈ blocksOf L, b < m.w.heap.size) (h : St B m0 m1 L) (hb : m.w.heap.size ≤ b ∧ m1.w.heap[b]? = some (.cells z T (0, 0))) : St B m0 m1 (.box b z T :: L) := by
  refine ⟨h.le, h.kept, h.news, ⟨?_, fun e he => ?_, fun e he c hc o ho hok => ?_⟩, fun c hc => ?_⟩
  · rw [blocksOf_cons]; simp only [Ent.box, List.singleton_append, List.nodup_cons]
    exact ⟨fun hm => by have := hlt b hm; omega, h.ow.nodup⟩
  · simp at he
    rcases he with rfl | he
    · exact hb.2
    · exact h.ow.ok e he
  · simp at he
    rcases he with rfl | he
    · simp [Ent.box] at hc; subst hc
      rw [← hm] at hok
      rcases hok.1 with h1 | h1
      · have := h1.2; omega
      · exact h1.2 ⟨T, rfl, z, (0, 0), hb.2⟩
    · exact h.ow.apart e he c hc o ho hok
  · rw [blocksOf_cons] at hc
    simp [Ent.box] at hc
    rcases hc with rfl | hc
    · exact .inr (Nat.le_trans h0.le.size hb.1)
    · exact h.blk c hc
theorem newO_mono {m : Mem} {T : Option TypeId} {w w' : World} {b : Nat} {o : Obj} (h : m.w.heap.size ≤ b ∧ (m.upO T w).w.heap[b]? = some o) (g : GO m T w w') : m.w.heap.size ≤ b ∧ (m.upO T w').w.heap[b]? = some o :=
  ⟨h.1, (g.2 b h.1 (heap_lt h.2)).trans h.2⟩
section
variable {P : Program} {o : Oper} {a : Act} {K : Kt} {ds : List Deferred} {B : List Nat} {m0 m : Mem} {Lk : Nat → List Ent} {F : Nat → Prop} {k : Nat} {w : World} {f : FuncId} {R : Value → World → Prop} {T : Option TypeId}
theorem valO {v : Value} {S : World → Prop} (hb : S w) (h : ∀ Post : Value → World → Prop, Post v w → StepTo P o a w Post) (hR : R v w) : StepTo P o a w fun v w' => R v w' ∧ GO m T w w' ∧ S w' :=
  h _ ⟨hR, GO_refl m T w, hb⟩
theorem callO {c : Callee} {xs : Array Operand} {ats : Array TypeId} {g : Operand} {first cap : Array Value} {vs : List Value} {Q : Value → Mem → List Ent → Prop} (h0 : St B m0 m (Lk 0)) (hlt : ∀ b ∈ blocksOf (Lk k), b < m.w.heap.size) (hb : SO T B m0 m Lk F k w) (hK : Ke a K) (hf : Enters P f) (ho : o.op = .call ⟨c, xs, ats⟩) (hc : c = .value g) (hg : evK K g = some (.func (.func f) first cap)) (hv : evAll K xs.toList = some vs)
    {args : Array Value} (hs : Spec P f args (m.upO T w) [] Q) (ha : first ++ vs.toArray ++ cap = args)
    (hR : ∀ v m' L', GO m T w m'.w → (T = none → Le m' (m.upO T m'.w)) → Le (m.upO T w) m' → Q v m' L' → R v m'.w) : StepTo P o a w fun v w' => R v w' ∧ GO m T w w' ∧ SO T B m0 m Lk F k w' := by
  subst ha
  unfold StepTo
  have := run_call (m := m.upO T w) hK hf ho hc hg hv
  rw [show (m.upO T w).w = w from rfl] at this
  rw [this]
  refine Calls.mono hs fun e w' ⟨v, m', L', h1, h2, h3, h4⟩ => ⟨v, h1, ?_⟩
  subst h2
  have hl : Le m m' := hb.1.trans h3.le
  have hg' : GO m T w m'.w := go_of h3.le fun b _ hb' => h3.kept b hb' (by simp)
  have hS : St B m0 m' (Lk k) := by
    have := hb.2.1.call (L' := L') h3
    exact ⟨this.le, this.kept, this.news, Ow.right this.ow, fun b hb' => this.blk b (by rw [blocksOf_append]; exact List.mem_append_right _ hb')⟩
  refine ⟨hR v m' L' hg' (fun e => ?_) h3.le h4, hg', hb.1.trans hg'.1, reupO h0 hS hl hlt, hb.2.2⟩
  subst e
  exact le_upO_up (L'' := L') h3 hb.1.size
theorem callMO {Rr Ll : List Ent} {c : Callee} {xs : Array Operand} {ats : Array TypeId} {g : Operand} {first cap : Array Value} {vs : List Value} {Q : Value → Mem → List Ent → Prop} (h0 : St B m0 m (Lk 0)) (hlt : ∀ b ∈ blocksOf (Lk (k + 1)), b < m.w.heap.size) (hltR : ∀ b ∈ blocksOf Rr, b < m.w.heap.size) (hb : Le m (m.upO T w) ∧ St B m0 (m.upO T w) (Rr ++ Ll)) (hK : Ke a K) (hf : Enters P f) (ho : o.op = .call ⟨c, xs, ats⟩) (hc : c = .value g) (hg : evK K g = some (.func (.func f) first cap)) (hv : evAll K xs.toList = some vs)
    {args : Array Value} (hs : Spec P f args (m.upO T w) Rr Q) (ha : first ++ vs.toArray ++ cap = args)
    (hR : ∀ v m' R', GO m T w m'.w → Le (m.upO T w) m' → (∀ b o, m'.ok b o → (m.upO T w).ok b o ∨ w.heap.size ≤ b ∨ b ∈ blocksOf Rr) → St B m0 m' (R' ++ Ll) → Q v m' R' → R v m'.w ∧ St B m0 m' (Lk (k + 1)) ∧ F (k + 1)) : StepTo P o a w fun v w' => R v w' ∧ GO m T w w' ∧ SO T B m0 m Lk F (k + 1) w' := by
  subst ha
  unfold StepTo
  have := run_call (m := m.upO T w) hK hf ho hc hg hv
  rw [show (m.upO T w).w = w from rfl] at this
  rw [this]
  refine Calls.mono hs fun e w' ⟨v, m', L', h1, h2, h3, h4⟩ => ⟨v, h1, ?_⟩
  subst h2
  have hl : Le m m' := hb.1.trans h3.le
  have hg' : GO m T w m'.w := go_of h3.le fun b hm hb' => h3.kept b hb' (fun h => by have := hltR b h; omega)
  obtain ⟨hr, hS, hF⟩ := hR v m' L' hg' h3.le h3.news (hb.2.frame h3) h4
  exact ⟨hr, hg', hb.1.trans hg'.1, reupO h0 hS hl hlt, hF⟩
theorem allocO {t : TypeId} (z : Value) (h0 : St B m0 m (Lk 0)) (hlt : ∀ b ∈ blocksOf (Lk k), b < m.w.heap.size) (hb : SO (some t) B m0 m Lk F k w) (ho : o.op = .alloc t) (hz : (P.info? t).map (·.zero) = some (some z))
    (hR : ∀ b w', m.w.heap.size ≤ b → (m.upO (some t) w').w.heap[b]? = some (.cells z.cells t (0, 0)) → R (.pointer (some ⟨b, 0, none⟩)) w') : StepTo P o a w fun v w' => R v w' ∧ GO m (some t) w w' ∧ SO (some t) B m0 m Lk F k w' := by
  unfold StepTo execOp
  simp only [ho, Instr.alloc, newVar, newRow, newObj, Sem.run_bind, Sem.run_pure, Result.andThen_ok, run_zero hz, Sem.run]
  have hg : Below w.heap.size w (w.alloc (.cells z.cells t (0, 0))) := (Below.refl _ _).alloc (Nat.le_refl _) _
  have h1 : Le (m.upO (some t) w) ((m.upO (some t) w).up (w.alloc (.cells z.cells t (0, 0)))) := Le.up (m.upO (some t) w) hg
  have hS := hb.2.1.newGiven (.cells z.cells t (0, 0))
  have hg' : GO m (some t) w (w.alloc (.cells z.cells t (0, 0))) := go_of h1 fun b _ hb' => Below.block hg b hb'
  refine ⟨hR _ _ hb.1.size (alloc_heap _ _), hg', hb.1.trans hg'.1, reupO h0 hS (hb.1.trans h1) hlt, hb.2.2⟩
theorem litO {t elem : TypeId} {len : Nat} {parts : Array (Nat × Operand)} (cells : Array Value) (h0 : St B m0 m (Lk 0)) (hlt : ∀ b ∈ blocksOf (Lk k), b < m.w.heap.size) (hb : SO T B m0 m Lk F k w) (hK : Ke a K) (ho : o.op = .buildSlice t len parts) (hk : known K o.op = true)
    (hrun : (execOp (evD K) o).run P w = .ok (.value (.slice (some ⟨w.heap.size, 0, none⟩) len len)) (w.alloc (.cells cells elem (0, 0)))) (hne : T ≠ some elem)
    (hR : ∀ w' b, Le (m.upO T w) (m.upO T w') → At (m.upO T w') b 0 cells.toList → R (.slice (some ⟨b, 0, none⟩) len len) w') : StepTo P o a w fun v w' => R v w' ∧ GO m T w w' ∧ SO T B m0 m Lk F k w' := by
  unfold StepTo
  rw [exec_known hK hk, hrun]
  have hg : Below w.heap.size w (w.alloc (.cells cells elem (0, 0))) := (Below.refl _ _).alloc (Nat.le_refl _) _
  have h1 : Le (m.upO T w) ((m.upO T w).up (w.alloc (.cells cells elem (0, 0)))) := Le.up (m.upO T w) hg
  have hg' : GO m T w (w.alloc (.cells cells elem (0, 0))) := go_of h1 fun b _ hb' => Below.block hg b hb'
  have hS := hb.2.1.newGiven (.cells cells elem (0, 0))
  refine ⟨hR _ _ hg'.1 fun k v hv => ⟨⟨.inr ⟨hb.1.size, ?_⟩, by simp⟩, ?_⟩, hg', hb.1.trans hg'.1, reupO h0 hS (hb.1.trans h1) hlt, hb.2.2⟩
  · rintro ⟨t', ht, cs, c, hc⟩
    rw [alloc_heap] at hc
    cases hc; exact hne ht
  · show (w.alloc _).cell? _ = _
    rw [cell_of_row _ _ _ _ _ _ (alloc_heap _ _), Nat.zero_add]; simpa using hv
end
end D
end Go.Proofs.Ythnhjibbkleneaa
