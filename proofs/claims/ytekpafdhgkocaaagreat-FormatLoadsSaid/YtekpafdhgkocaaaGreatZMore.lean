/- Part of what the laws need: plain words, the walker and its laws, the program's functions. -/
import Derived.Test.YtekpafdhgkocaaaGreatZRange
import Derived.Scope
namespace Go.Proofs.YtekpafdhgkocaaaGreat
open Go.RowKit
section
variable {P : Program} {Q : Exit → Act → World → Prop} {a : Act} {w : World} {rr : Option Nat}
theorem iA {b : Frame} {k : List Item} {cs : List Frame} {c : Code} : step P (lone (b.atR a (.code (.scope c) :: k)) cs w) = .next (lone (b.atR a (.code c :: .inScope c :: k)) cs w) :=
 step_lone_go (by simp [stepG, stepG.exec, Frame.atR])
theorem yH {b : Frame} {k : List Item} {cs : List Frame} {c : Code} : step P (lone (b.atR a (.inScope c :: k)) cs w) = .next (lone (b.atR a k) cs w) :=
 step_lone_go (by simp [stepG, stepG.exec, Frame.atR])
theorem KZ {c : Code} (h : c.wpIn (FW rr) 0 P (Exit.noGoto Q) a w) : (Code.scope c).wpIn (FW rr) 0 P Q a w := by
 intro b k cs hro hb hr
 have h0 : (lone (b.atR a (.code (.scope c) :: k)) cs w).fenced P (FW rr) := fenced_calm hb hr rfl
 obtain ⟨e, a₁, w₁, hq, harr⟩ := h b (.inScope c :: k) cs hro hb hr
 cases e with
 | normal => exact ⟨.normal, a₁, w₁, hq, .head h0 iA (StepsIn.trans harr (.one (fenced_calm hb hr rfl) yH))⟩
 | exit id => exact ⟨.exit id, a₁, w₁, hq, fun k' hk => .head h0 iA (harr.1 k' (by simp [exitTo, hk])), fun hr' hk => by
  obtain ⟨k₁, h1, h2⟩ := harr.2 hr' (by simp [exitTo, hk])
  exact ⟨k₁, by simpa [exitTo] using h1, .head h0 iA h2⟩⟩
 | goto l => exact hq.elim
 | ret => exact ⟨_, a₁, w₁, hq, .of_steps (.one h0 iA) harr⟩
 | panic ch => exact ⟨_, a₁, w₁, hq, .of_steps (.one h0 iA) harr⟩
 | outgrown => exact ⟨_, a₁, w₁, hq, .of_steps (.one h0 iA) harr⟩
end
section
variable {P : Program} {Q : Exit → Act → World → Prop} {a : Act} {w : World} {rr : Option Nat} {ops ops2 : Array Oper} {id n : Nat} {y : Code} {o : Oper} {rest : List Oper} {K : Kt} {ds : List Deferred}
theorem sr (h : wpListIn (FW rr) 0 P ops (Exit.then (y.wpIn (FW rr) 0 P Q) Q) ops.toList a w) : ((Code.region id ops false).seq y).wpIn (FW rr) 0 P Q a w := Cy (yh h)
theorem nn {next : Act → World → Prop} (h : next a w) : wpListIn (FW rr) 0 P ops (Exit.then next Q) [] a w := wpListIn_nil (rR h)
theorem nx {Q2 : Exit → Act → World → Prop} (h : wpListIn (FW rr) 0 P ops (Exit.then (y.wpIn (FW rr) 0 P Q) Q) ops.toList a w) : wpListIn (FW rr) 0 P ops2 (Exit.then (((Code.region id ops false).seq y).wpIn (FW rr) 0 P Q) Q2) [] a w := nn (sr h)
def OH (o : Oper) (K : Kt) : Option Value := match o.op with | .move x | .assign x => ed K x | _ => none
theorem qm (d : Nat) {v : Value} (hK : Kn n a K ds) (next : ∀ a', Kn n a' ((d, v) :: K) ds → wpListIn (FW rr) 0 P ops Q rest a' w) (hc : MA ops o K n d = true := by kernel_rfl) (hm : OH o K = some v := by rfl) : wpListIn (FW rr) 0 P ops Q (o :: rest) a w := by
 refine QC d hK hc ?_
 unfold OH at hm
 unfold ab execOp
 cases ho : o.op <;> simp only [ho] at hm <;> first | cases hm | (simp only [hK.ev hm]; exact next)
end
section
variable {P : Program} {o : Oper} {a : Act} {K : Kt} {B : List Nat} {m0 m : Mem} {L : List az} {aL : Value → World → Prop} {x y : Operand} {t tx e : TypeId} {α : Type}
theorem uM {ty : TypeId} {z : Value} {sz bytes : Nat} (w : World) (hT : cq P t e z sz bytes) (hx : P.underlying tx = some (.int .i64)) (n : Nat) (hn : 0 < n) (hb : n * bytes ≤ 140737488355328) (hb0 : 1 ≤ bytes) :
 (Builtin.append_ #[t, tx] ty #[.slice none 0 0, .int .i64 (n : Int)]).run P w = .ok (.slice (some ⟨w.heap.size, 0, none⟩) n (grownCap w n 0 e))
  (w.drew.alloc (.cells (Builtin.zeroCells z.cells n ++ Builtin.zeroCells z.cells (grownCap w n 0 e - n)) e)) := by
 obtain ⟨i, hi, hz, hs, hby⟩ := info_parts hT.info
 have hnb : n ≤ n * bytes := Nat.le_mul_of_pos_right _ hb0
 have hw : IntKind.i64.wrap (n : Int) = (n : Int) := G.eK (by omega) (by omega)
 have h1 : ¬ ((n : Int) < 0) := by omega
 have h2 : ¬ ((281474976710656 : Int) < (n : Int) * (bytes : Int)) := by
  have : ((n * bytes : Nat) : Int) ≤ 140737488355328 := by omega
  rw [Int.natCast_mul] at this
  omega
 have h3 : ¬ (9223372036854775807 < (n : Int)) := by omega
 have h4' : ¬ (n = 0 ∨ sz = 0) := by have := hT.pos; omega
 have hfit : Builtin.nextslicecap n 0 * bytes ≤ 281474976710656 := growslice_fits (need := n) (old := 0) hn hb
 have h5 : ¬ (281474976710656 < Builtin.nextslicecap n 0 * bytes) := by omega
 have h6 : ¬ n = 0 := by omega
 have h4 : ¬ n * sz = 0 := Nat.mul_ne_zero h6 (by have := hT.pos; omega)
 simp [h4, Builtin.append_, run_underlying hT.iE, run_underlying hx, sizeOf, typeInfo, zeroValue, hi, hz, hs, hby, asInt, asIntOf, hw, h1, h2, h3, h4', h5, h6, Question.forced, newRow, grownCap, Builtin.firstCells]
theorem F9 {z : Value} {sz bytes n : Nat} {i : Int} (hT : cq P t e z sz bytes) (hx : P.underlying tx = some (.int .i64)) (hu : 0 < i ∧ i * (bytes : Int) ≤ 140737488355328) (hn : n = i.toNat) (hK : Ke a K) (hS : St B m0 m L) (ho : o.op = .call ⟨.builtin .append, #[x, y], #[t, tx]⟩)
 (hxx : ed K x = some (.slice none 0 0)) (hy : ed K y = some (.int .i64 i)) (hb : decide (1 ≤ bytes) = true)
 (hp : ∀ m' b cap, Le m m' → cap ≤ maxLen → St B m0 m' (rowOf e sz (some b) cap ([] : List α) :: L) → aL (.slice (dW (some b)) n cap) m'.w) : ab P o a m.w aL := by
 obtain rfl : i = (n : Int) := by omega
 have hb1 : 1 ≤ bytes := of_decide_eq_true hb
 have hnb : n * bytes ≤ 140737488355328 := by
  have := hu.2
  rw [← Int.natCast_mul] at this
  omega
 have hrun := uM (ty := o.type) m.w hT hx n (by omega) hnb hb1
 have hle : n ≤ n * bytes := Nat.le_mul_of_pos_right _ hb1
 have hge := grownCap_ge m.w n 0 e
 have hcm := grownCap_le_maxLen m.w n 0 e (by unfold maxLen; omega)
 unfold ab execOp
 simp only [ho, resolve, invoke, builtin, Sem.run_bind, Sem.run_pure, Result.andThen_ok, List.map_toArray, List.map_cons, List.map_nil, hK.ev hxx, hK.ev hy, hrun]
 have h1 := hS.drew
 have hsz : m.w.drew.heap.size = m.w.heap.size := rfl
 have h2 := h1.new (o := .cells (Builtin.zeroCells z.cells n ++ Builtin.zeroCells z.cells (grownCap m.w n 0 e - n)) e) rfl (rowOf e sz (some m.w.heap.size) (grownCap m.w n 0 e) ([] : List α)) (by simp [rowOf, az.row]) (fun b hbb => by
  cases hbb
  refine ⟨_, cI m.w.drew _, ?_⟩
  simp only [Array.size_append, size_zeroCells, hT.zs, ← Nat.add_mul]
  congr 1; omega)
 exact hp _ _ _ ((Le.up m (Below.refl _ _).drew).trans (St.new (St.refl (Ow.nil (m.up m.w.drew))) rfl (rowOf e sz (some m.w.heap.size) (grownCap m.w n 0 e) ([] : List α)) (by simp [rowOf, az.row]) (fun b hbb => by
  cases hbb
  refine ⟨_, cI m.w.drew _, ?_⟩
  simp only [Array.size_append, size_zeroCells, hT.zs, ← Nat.add_mul]
  congr 1; omega)).le) hcm h2
theorem cC.Hd {R : Mem → α → List Value → Prop} {sz b cap : Nat} (m : Mem) (h : cap ≤ maxLen) : cC R m sz (dW (some b)) cap ([] : List α) :=
 ⟨[], ⟨by simp, Nat.zero_le _, h, (fun h => by cases h), fun j v hv => by simp at hv⟩, rfl, fun i x cs hx => by simp at hx⟩
theorem vt {z : Value} {sz bytes n cap : Nat} {ad : Option Addr} {k : IntKind} (hT : cq P t e z sz bytes) (hK : Ke a K) (ho : o.op = .slice t x none (some y) none) (hxx : ed K x = some (.slice ad n cap)) (hy : ed K y = some (.int k 0))
 (hp : aL (.slice ad 0 cap) m.w) : ab P o a m.w aL := by
 have := iw (P := P) (w := m.w) hT ad n cap 0 0 none (some (.int k ((0 : Nat) : Int))) (by simp only [Instr.sliceBounds, Sem.run_bind, Sem.run_pure, Result.andThen_ok, cN (P := P) (j := 0) (Nat.zero_le cap)])
 unfold ab execOp
 simp only [ho, Option.map_some, Option.map_none, hK.ev hxx, hK.ev hy, Sem.run_bind]
 rw [show ((0 : Nat) : Int) = 0 from rfl] at this
 simp only [this, Result.andThen_ok, Sem.run_pure, eU, Nat.sub_zero]
 exact hp
end
end Go.Proofs.YtekpafdhgkocaaaGreat
