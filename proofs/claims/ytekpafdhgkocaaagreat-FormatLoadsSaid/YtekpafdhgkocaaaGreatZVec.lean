/- Part of what the laws need: plain words, the walker and its laws, the program's functions. -/
import Derived.Test.YtekpafdhgkocaaaGreatZDrawM
namespace Go.Proofs.YtekpafdhgkocaaaGreat
open Go.RowKit G
section
variable {α : Type}
def tD (enc : α → Value) (l : List α) : Array Value := (l.map enc).toArray
theorem Gl (enc : α → Value) (l : List α) : (tD enc l).size = l.length := by simp [tD]
end
section
variable {P : Program} {o : Oper} {a : Act} {K : List (Nat × Value)} {B : List Nat} {m0 m : Mem} {L : List az} {aL : Value → World → Prop} {t e : TypeId} {x y : Operand} {α : Type}
theorem Ga (enc : α → Value) (z : α) {bytes n : Nat} {k k' : IntKind} {i : Int} (hT : cq P t e (enc z) 1 bytes) (hz : (enc z).oneCell' = true) (hK : Ke a K) (hS : St B m0 m L) (ho : o.op = .makeSlice t x y) (hx : ed K x = some (.int k i)) (hy : ed K y = some (.int k' i))
 (hi : i = (n : Int)) (hn : n * bytes ≤ 140737488355328) (hb : 0 < bytes)
 (hp : ∀ m' b, m.w.heap.size ≤ b → Le m m' → St B m0 m' (.box b (tD enc (List.replicate n z)) e :: L) → aL (.slice (some ⟨b, 0, none⟩) n n) m'.w) : ab P o a m.w aL := by
 subst hi
 have hn' : n ≤ 140737488355328 := Nat.le_trans (Nat.le_mul_of_pos_right n hb) hn
 obtain ⟨inf, hinf, hzr, hsz, hby⟩ := info_parts hT.info
 have hw : IntKind.i64.wrap (n : Int) = (n : Int) := eK (by omega) (by omega)
 have hnb : ¬ ((bytes : Int) * (n : Int) > 2 ^ 48) := by
  have : ((n * bytes : Nat) : Int) ≤ 140737488355328 := by omega
  rw [Int.natCast_mul, Int.mul_comm] at this
  omega
 have hrow : ((Array.range n).map fun i => (enc z).cells[i % (enc z).cells.size]!) = tD enc (List.replicate n z) := by
  have hc : (enc z).cells = #[enc z] := by cases hv : enc z <;> rw [hv] at hz <;> first | rfl | cases hz
  rw [hc]
  apply Array.ext
  · simp [tD]
  · intro i hi hi'
    simp [tD, Nat.mod_one]
 have hz0 : ∀ w : World, (zeroValue e).run P w = .ok (enc z) w := fun w => by simp [zeroValue, typeInfo, hinf, hzr]
 have h1 : ¬ ((n : Int) < 0) := by omega
 have h2 : ¬ ((281474976710656 : Int) < (bytes : Int) * (n : Int)) := by omega
 unfold ab execOp
 simp only [ho, hK.ev hx, hK.ev hy, Instr.makeSlice, asInt, asIntOf, Sem.run_bind, Sem.run_pure, Result.andThen_ok, run_underlying hT.iE]
 simp [typeInfo, sizeOf, newRow, newObj, hinf, hby, hw, hsz, h1, h2, decide_false, Bool.or_false, Bool.false_or, Bool.false_eq_true, if_false, Int.lt_irrefl, Int.toNat_natCast, Nat.mul_one, gt_iff_lt]
 by_cases h0 : n = 0
 · subst h0
   simp [Sem.run]
   have h := hS.uF (tD enc (List.replicate 0 z)) e
   rw [show (Array.map (fun (_ : Nat) => (default : Value)) (Array.range 0)) = tD enc (List.replicate 0 z) by simp [tD]]
   exact hp _ _ (Nat.le_refl _) (St.new (St.refl (Ow.nil m)) rfl (.box m.w.heap.size (tD enc (List.replicate 0 z)) e) rfl (cI _ _)).le h
 · simp [h0, hz0, hrow, Sem.run]
   have h := hS.uF (tD enc (List.replicate n z)) e
   exact hp _ _ (Nat.le_refl _) (St.new (St.refl (Ow.nil m)) rfl (.box m.w.heap.size (tD enc (List.replicate n z)) e) rfl (cI _ _)).le h
end
end Go.Proofs.YtekpafdhgkocaaaGreat
