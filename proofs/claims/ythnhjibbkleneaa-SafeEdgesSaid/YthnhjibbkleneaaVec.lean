/- Slices whose elements are written: a block of the call's own whose cells are a list of one-cell values. -/
import Derived.Test.YthnhjibbkleneaaDrawM
namespace Go.Proofs.Ythnhjibbkleneaa
open Go.RowKit G
section
variable {α : Type}
def vecC (enc : α → Value) (l : List α) : Array Value := (l.map enc).toArray
theorem vecC_size (enc : α → Value) (l : List α) : (vecC enc l).size = l.length := by simp [vecC]
theorem vecC_get (enc : α → Value) {l : List α} {j : Nat} (h : j < l.length) : (vecC enc l)[j]? = some (enc l[j]) := by simp [vecC, h]
theorem vecC_put (enc : α → Value) (l : List α) {j : Nat} (h : j < l.length) (x : α) : putAt (vecC enc l) j [enc x] = vecC enc (l.set j x) := by
  unfold putAt vecC
  simp only [List.toList_toArray, List.length_singleton, ← List.map_take, ← List.map_drop]
  rw [List.set_eq_take_append_cons_drop, if_pos h]
  simp
/-- A list with element i set, where i is one of its places. -/
theorem idx_ok {l : List α} {i : Int} {x : α} (h : idx l i = some x) : ∃ j : Nat, i = (j : Int) ∧ ∃ hj : j < l.length, x = l[j] := by
  obtain ⟨j, rfl, hj⟩ := idx_some h
  obtain ⟨hl, e⟩ := List.getElem?_eq_some_iff.1 hj
  exact ⟨j, rfl, hl, e.symm⟩
end
section
variable {P : Program} {o : Oper} {a : Act} {K : List (Nat × Value)} {B : List Nat} {m0 m : Mem} {L : List Ent} {Post : Value → World → Prop} {t e : TypeId} {x y : Operand} {α : Type}
theorem s_makeVec (enc : α → Value) (z : α) {bytes n : Nat} {k k' : IntKind} {i : Int} (hT : ElemT P t e (enc z) 1 bytes) (hz : (enc z).oneCell' = true) (hK : Ke a K) (hS : St B m0 m L) (ho : o.op = .makeSlice t x y) (hx : evK K x = some (.int k i)) (hy : evK K y = some (.int k' i))
    (hi : i = (n : Int)) (hn : n * bytes ≤ 140737488355328) (hb : 0 < bytes)
    (hp : ∀ m' b, m.w.heap.size ≤ b → Le m m' → St B m0 m' (.box b (vecC enc (List.replicate n z)) e :: L) → Post (.slice (some ⟨b, 0, none⟩) n n) m'.w) : StepTo P o a m.w Post := by
  subst hi
  have hn' : n ≤ 140737488355328 := Nat.le_trans (Nat.le_mul_of_pos_right n hb) hn
  obtain ⟨inf, hinf, hzr, hsz, hby⟩ := info_parts hT.info
  have hw : IntKind.i64.wrap (n : Int) = (n : Int) := w64 (by omega) (by omega)
  have hnb : ¬ ((bytes : Int) * (n : Int) > 2 ^ 48) := by
    have : ((n * bytes : Nat) : Int) ≤ 140737488355328 := by omega
    rw [Int.natCast_mul, Int.mul_comm] at this
    omega
  have hrow : ((Array.range n).map fun i => (enc z).cells[i % (enc z).cells.size]!) = vecC enc (List.replicate n z) := by
    have hc : (enc z).cells = #[enc z] := by cases hv : enc z <;> rw [hv] at hz <;> first | rfl | cases hz
    rw [hc]
    apply Array.ext
    · simp [vecC]
    · intro i hi hi'
      simp [vecC, Nat.mod_one]
  have hz0 : ∀ w : World, (zeroValue e).run P w = .ok (enc z) w := fun w => by simp [zeroValue, typeInfo, hinf, hzr]
  have h1 : ¬ ((n : Int) < 0) := by omega
  have h2 : ¬ ((281474976710656 : Int) < (bytes : Int) * (n : Int)) := by omega
  unfold StepTo execOp
  simp only [ho, hK.ev hx, hK.ev hy, Instr.makeSlice, asInt, asIntOf, Sem.run_bind, Sem.run_pure, Result.andThen_ok, run_underlying hT.und]
  simp [typeInfo, sizeOf, newRow, newObj, hinf, hby, hw, hsz, h1, h2, decide_false, Bool.or_false, Bool.false_or, Bool.false_eq_true, if_false, Int.lt_irrefl, Int.toNat_natCast, Nat.mul_one, gt_iff_lt]
  by_cases h0 : n = 0
  · subst h0
    simp [Sem.run]
    have h := hS.newBox (vecC enc (List.replicate 0 z)) e
    rw [show (Array.map (fun (_ : Nat) => (default : Value)) (Array.range 0)) = vecC enc (List.replicate 0 z) by simp [vecC]]
    exact hp _ _ (Nat.le_refl _) (St.new (St.refl (Ow.nil m)) rfl (.box m.w.heap.size (vecC enc (List.replicate 0 z)) e) rfl (alloc_heap _ _)).le h
  · simp [h0, hz0, hrow, Sem.run]
    have h := hS.newBox (vecC enc (List.replicate n z)) e
    exact hp _ _ (Nat.le_refl _) (St.new (St.refl (Ow.nil m)) rfl (.box m.w.heap.size (vecC enc (List.replicate n z)) e) rfl (alloc_heap _ _)).le h
/-- The address of an element. -/
theorem s_indexV {z : Value} {bytes b n c : Nat} {k : IntKind} {i : Int} (hT : ElemT P t e z 1 bytes) (j : Nat) (hK : Ke a K) (ho : o.op = .indexAddr t x y) (hx : evK K x = some (.slice (some ⟨b, 0, none⟩) n c)) (hy : evK K y = some (.int k i))
    (hij : i = (j : Int)) (hj : j < n) (hp : Post (.pointer (some ⟨b, j, none⟩)) m.w) : StepTo P o a m.w Post := by
  subst hij
  have hb : (0 : Int) ≤ (j : Int) ∧ (j : Int) < (n : Int) := ⟨by omega, by omega⟩
  unfold StepTo execOp
  simp only [ho, hK.ev hx, hK.ev hy, Instr.indexAt, asIntOf, Sem.run_bind, Sem.run_pure, Result.andThen_ok, run_underlying hT.und, sizeOf_of hT, hb, and_self, if_true, Int.toNat_natCast, Addr.add_mid, Nat.mul_one, Nat.zero_add]
  exact hp
/-- A store into an element. -/
theorem s_storeV (enc : α → Value) {b j : Nat} {l : List α} {T : TypeId} (v : α) (hK : Ke a K) (k : Nat) (hS : St B m0 m L) (ho : o.op = .store t x y) (hx : evK K x = some (.pointer (some ⟨b, j, none⟩))) (hy : evK K y = some (enc v)) (hk : L[k]? = some (.box b (vecC enc l) T))
    (hT : (aggOf P t).map (·.2) = some 1) (h1 : (enc v).oneCell' = true) (hj : j < l.length)
    (hp : ∀ m', Le m m' → St B m0 m' (.box b (vecC enc (l.set j v)) T :: L.eraseIdx k) → Post undef m'.w) : StepTo P o a m.w Post := by
  have hc : (enc v).cells = #[enc v] := by cases hv : enc v <;> rw [hv] at h1 <;> first | rfl | cases h1
  refine s_store (v := enc v) hK k hS ho hx hy hk (by rw [hc]; exact hT) (by rw [hc, vecC_size]; simp; omega) (by rw [hc]; simpa using h1) fun m' hl hS' => ?_
  rw [hc, show (#[enc v] : Array Value).toList = [enc v] from rfl, vecC_put enc l hj v] at hS'
  exact hp m' hl hS'
/-- Nobody writes it any more. -/
theorem els_vec {R : Mem → α → List Value → Prop} (hR : Rep R 1) (enc : α → Value) (hE : ∀ m x, R m x [enc x]) {b : Nat} {l : List α} (hA : At m b 0 (vecC enc l).toList) (hn : l.length ≤ maxLen) : Els R m 1 (some ⟨b, 0, none⟩) l.length l := by
  have hfl : ∀ l : List α, (l.map fun c => [enc c]).flatten = l.map enc := fun l => by induction l with | nil => rfl | cons c l ih => simp [ih]
  refine Els.of_at hR (css := l.map fun c => [enc c]) (by simp) (fun i x c hx hcs => ?_) ?_ (Nat.le_refl _) hn
  · rw [List.getElem?_map, hx] at hcs; simp at hcs; subst hcs; exact hE _ _
  · rw [hfl]; exact hA
end
end Go.Proofs.Ythnhjibbkleneaa
