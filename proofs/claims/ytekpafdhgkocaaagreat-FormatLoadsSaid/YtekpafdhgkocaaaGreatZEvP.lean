/- Part of what the laws need: plain words, the walker and its laws, the program's functions. -/
import Derived.Test.YtekpafdhgkocaaaGreatZEvO
namespace Go.Proofs.YtekpafdhgkocaaaGreat
open Go.RowKit G
namespace E
variable {S : Nat → Type} {tb : Tb S} {K : cV tb} {P : Program} {o : Oper}
theorem ab.val {a : Act} {w : World} {v : Value} {aL : Value → World → Prop} (h : (execOp a.eval o).run P w = .ok (.value v) w) (hp : aL v w) : ab P o a w aL := by
 unfold ab; rw [h]; exact hp
theorem nu {g : GG S} {m : Mem} {v : CV S} {k : IntKind} {x : Int} {u : Value} (h : num v = some (k, x)) (hv : au K g m v [u]) : u = .int k x ∧ (k = .u8 → ∃ c : UInt8, x = (c.toNat : Int)) := by
 cases v <;> simp only [num] at h <;> try (cases h; done)
 · split at h
   · cases h
   · rename_i hk
     cases h
     simp only [au] at hv
     exact ⟨by simpa using hv, fun e => absurd e hk⟩
 · cases h
   simp only [au] at hv
   exact ⟨by simpa using hv, fun _ => ⟨_, rfl⟩⟩
theorem xv {g : GG S} {m : Mem} {k : IntKind} {x : Int} (h : k = .u8 → x = ((G.u8 x).toNat : Int)) : au K g m (CD k x) [.int k x] := by
 unfold CD
 split
 · simp only [au]; rw [← h rfl]
 · simp only [au]
theorem DS {g : GG S} {m : Mem} {k : IntKind} {x : Int} : au K g m (K1 k x) [.int k (k.wrap x)] := by
 unfold K1
 split
 · simp only [au]; rw [KV]
 · simp only [au]
section
variable {γ : Type} {k : CV S → Option γ} {r : γ} {x y : Operand} {xT yT : TypeId} {op : BinOp}
def A4 (P : Program) (K : cV tb) (o : Oper) (v : CV S) (a b : Value) (ρ : Operand → Value) (g : GG S) (m : Mem) : Prop := ∃ u, (execOp ρ o).run P m.w = .ok (.value u) m.w ∧ au K g m v [u]
theorem Et {z : Int} {kw : IntKind} {ρ : Operand → Value} (hρ : ∀ c, ρ (.const c) = c) (h : Al y = true) (hy : ρ y = .int kw z) : 0 < z := by
 unfold Al at h
 split at h
 · rw [hρ] at hy; cases hy; simpa using h
 · cases h
theorem HC {z : Int} {kw : IntKind} {ρ : Operand → Value} (hρ : ∀ c, ρ (.const c) = c) (h : Es y = true) (hy : ρ y = .int kw z) : 0 ≤ z := by
 unfold Es at h
 split at h
 · rw [hρ] at hy; cases hy; simpa using h
 · cases h
theorem J6 {kv kw : IntKind} {i z : Int} (ho : o.op = .binOp op xT x y yT) (hk8 : kv = .u8 → ∃ c : UInt8, i = (c.toNat : Int)) (h : FR op kv kw i z y k = some r) :
 ∃ v, k v = some r ∧ ∀ (g : GG S) (m : Mem) (ρ : Operand → Value), (∀ c, ρ (.const c) = c) → ρ x = .int kv i → ρ y = .int kw z → A4 P K o v (.int kv i) (.int kw z) ρ g m := by
 have h8 : ∀ {t : Int}, (∃ q, t = IntKind.u8.wrap q) → t = ((G.u8 t).toNat : Int) := fun h => DR h
 have wr : ∀ (kk : IntKind) (q : Int), kk = .u8 → ∃ t, kk.wrap q = IntKind.u8.wrap t := fun kk q e => ⟨q, by rw [e]⟩
 unfold FR at h
 split at h
 · have key : ∀ {g : GG S} {m : Mem} {ρ : Operand → Value}, 0 ≤ z → ρ x = .int kv i → ρ y = .int kw z → A4 P K o (CD kv (iC kv i z)) (.int kv i) (.int kw z) ρ g m := fun hz hx hy =>
    ⟨_, KA hz ho hx hy, xv fun e => by subst e; exact h8 ⟨_, rfl⟩⟩
   split at h
   · rename_i hl; exact ⟨_, h, fun g m ρ hρ hx hy => key (HC hρ hl hy) hx hy⟩
   · obtain ⟨u, hu, h⟩ := Option.bind_eq_some_iff.1 h
     exact ⟨_, h, fun g m ρ hρ hx hy => key (ep hu) hx hy⟩
 · have key : ∀ {g : GG S} {m : Mem} {ρ : Operand → Value}, 0 ≤ z → ρ x = .int kv i → ρ y = .int kw z → A4 P K o (CD kv (bN kv i z)) (.int kv i) (.int kw z) ρ g m := fun hz hx hy =>
    ⟨_, KB hz ho hx hy, xv fun e => by obtain ⟨c, rfl⟩ := hk8 e; subst e; exact NB _ _⟩
   split at h
   · rename_i hl; exact ⟨_, h, fun g m ρ hρ hx hy => key (HC hρ hl hy) hx hy⟩
   · obtain ⟨u, hu, h⟩ := Option.bind_eq_some_iff.1 h
     exact ⟨_, h, fun g m ρ hρ hx hy => key (ep hu) hx hy⟩
 · split at h
   · cases h
   · rename_i hkk _
     subst hkk
     split at h
     iterate 6 (
      refine ⟨_, h, fun g m ρ hρ hx hy => ⟨_, by simp [execOp, ho, hx, hy, binOp, Op.intCmp, eqGuard] <;> rfl, by simp only [Jx, Ju, Jw, au]⟩⟩)
     iterate 3 (
      refine ⟨_, h, fun g m ρ hρ hx hy => ⟨_, by simp [execOp, ho, hx, hy, binOp, Op.intArith, eqGuard] <;> rfl, DS⟩⟩)
     iterate 4 (
      refine ⟨_, h, fun g m ρ hρ hx hy => ⟨_, by simp [execOp, ho, hx, hy, binOp, Op.intBits, eqGuard, aR, tK, cp, D2], xv fun e => by subst e; exact h8 ⟨_, rfl⟩⟩⟩)
     · have key : ∀ {g : GG S} {m : Mem} {ρ : Operand → Value}, z ≠ 0 → ρ x = .int kv i → ρ y = .int kv z → A4 P K o (K1 kv (Int.tdiv i z)) (.int kv i) (.int kv z) ρ g m := fun hz hx hy =>
        ⟨_, EI hz ho hx hy (.inl ⟨rfl, rfl⟩), DS⟩
       split at h
       · rename_i hl; exact ⟨_, h, fun g m ρ hρ hx hy => key (by have := Et hρ hl hy; omega) hx hy⟩
       · obtain ⟨u, hu, h⟩ := Option.bind_eq_some_iff.1 h
         exact ⟨_, h, fun g m ρ hρ hx hy => key (ep hu) hx hy⟩
     · split at h
       · cases h
       · have key : ∀ {g : GG S} {m : Mem} {ρ : Operand → Value}, z ≠ 0 → ρ x = .int kv i → ρ y = .int kv z → A4 P K o (.int kv (Int.tmod i z)) (.int kv i) (.int kv z) ρ g m := fun hz hx hy =>
          ⟨_, EI hz ho hx hy (.inr ⟨rfl, rfl⟩), by simp only [au]⟩
         split at h
         · rename_i hl; exact ⟨_, h, fun g m ρ hρ hx hy => key (by have := Et hρ hl hy; omega) hx hy⟩
         · obtain ⟨u, hu, h⟩ := Option.bind_eq_some_iff.1 h
           exact ⟨_, h, fun g m ρ hρ hx hy => key (ep hu) hx hy⟩
     · cases h
theorem fE {A B : CV S} (h : kY op A B k = some r) : (op = .eql ∧ k A = some r) ∨ (op = .neq ∧ k B = some r) := by
 unfold kY at h
 split at h
 · exact .inl ⟨rfl, h⟩
 · exact .inr ⟨rfl, h⟩
 · cases h
theorem vW {g : GG S} {m : Mem} {v : CV S} {b : Bool} {u : Value} (h : bit v = some b) (hv : au K g m v [u]) : u = .bool b := by
 cases v <;> simp only [bit] at h <;> try (cases h; done)
 · cases h; simp only [au] at hv; simpa using hv
 · cases h; simp only [au] at hv; simpa using hv
variable {tt : TypeId → Option (TI S)} {a b : AV S}
theorem F6 {t : TypeId} {u v : Array Value} {b : Bool} {w : World} (h : (binOp .eql t (.agg u) (.agg v)).run P w = .ok (.bool b) w) : (binOp .neq t (.agg u) (.agg v)).run P w = .ok (.bool (!b)) w := by
 simp only [binOp, Sem.run_bind, Sem.run_pure] at h ⊢
 cases he : (Op.equal t (.agg u) (.agg v)).run P w with
 | ok c w' => rw [he] at h; simp only [Result.andThen_ok, Result.ok.injEq, Value.bool.injEq] at h; obtain ⟨rfl, rfl⟩ := h; rfl
 | halt x w' => rw [he] at h; simp [Result.andThen] at h
theorem He (hT : cn P K tt) (ho : o.op = .binOp op xT x y yT) (h : Mg tt op xT a b k = some r) :
 ∃ v, k v = some r ∧ ∀ (g : GG S) (m : Mem) (ρ : Operand → Value), aA K g m a (ρ x) → aA K g m b (ρ y) → ∃ u, (execOp ρ o).run P m.w = .ok (.value u) m.w ∧ au K g m v [u] := by
 unfold Mg at h
 obtain ⟨ti, hti, h'⟩ := Option.bind_eq_some_iff.1 h
 clear h; have h := h'; clear h'
 have hty := hT.ty xT ti hti
 have htd := hty.td
 split at h
 ·
  rename_i X Z hd
  have run : ∀ (g : GG S) (m : Mem) (ρ : Operand → Value), aA K g m (.one (.str X)) (ρ x) → aA K g m (.one (.str Z)) (ρ y) → (op = .eql → (execOp ρ o).run P m.w = .ok (.value (.bool (decide (X = Z)))) m.w) ∧ (op = .neq → (execOp ρ o).run P m.w = .ok (.value (.bool (!decide (X = Z)))) m.w) := by
   intro g m ρ hx hy
   simp only [aA, au] at hx hy
   have hx : ρ x = .string (Proofs.YtekpafdhgkocaaaGreat.str X) := by simpa using hx
   have hy : ρ y = .string (Proofs.YtekpafdhgkocaaaGreat.str Z) := by simpa using hy
   constructor
   · rintro rfl; simp [execOp, ho, hx, hy, binOp, Op.stringOp, eqGuard] <;> (rw [Bool.eq_iff_iff]; simp)
   · rintro rfl; simp [execOp, ho, hx, hy, binOp, Op.stringOp, eqGuard] <;> (rw [Bool.eq_iff_iff]; simp)
  rcases fE h with ⟨e, h⟩ | ⟨e, h⟩
  · exact ⟨_, h, fun g m ρ hx hy => ⟨_, (run g m ρ hx hy).1 e, by simp only [Jx, au]⟩⟩
  · exact ⟨_, h, fun g m ρ hx hy => ⟨_, (run g m ρ hx hy).2 e, by simp only [Jv, au]⟩⟩
 ·
  rename_i V W hd
  rw [hd] at htd
  obtain ⟨bx, hbx, h⟩ := Option.bind_eq_some_iff.1 h
  obtain ⟨bz, hbz, h⟩ := Option.bind_eq_some_iff.1 h
  have run : ∀ (g : GG S) (m : Mem) (ρ : Operand → Value), aA K g m (.one V) (ρ x) → aA K g m (.one W) (ρ y) → (op = .eql → (execOp ρ o).run P m.w = .ok (.value (.bool (bx == bz))) m.w) ∧ (op = .neq → (execOp ρ o).run P m.w = .ok (.value (.bool (!(bx == bz)))) m.w) := by
   intro g m ρ hx hy
   simp only [aA] at hx hy
   have hx := vW hbx hx
   have hy := vW hbz hy
   have he : (Op.equal xT (.bool bx) (.bool bz)).run P m.w = .ok (bx == bz) m.w := by
    unfold Op.equal; rw [show Op.maxDepth = 9999 + 1 from rfl]; unfold Op.equalIn; simp [run_underlying htd]
   constructor
   · rintro rfl; simp [execOp, ho, hx, hy, binOp, eqGuard, he]
   · rintro rfl; simp [execOp, ho, hx, hy, binOp, eqGuard, he]
  rcases fE h with ⟨e, h⟩ | ⟨e, h⟩
  · exact ⟨_, h, fun g m ρ hx hy => ⟨_, (run g m ρ hx hy).1 e, by simp only [Ju, au]⟩⟩
  · exact ⟨_, h, fun g m ρ hx hy => ⟨_, (run g m ρ hx hy).2 e, by simp only [Jw, au]; rfl⟩⟩
 · rename_i e hd
   rw [hd] at htd
   have run : ∀ (g : GG S) (m : Mem) (ρ : Operand → Value), aA K g m (.one .dI) (ρ x) → aA K g m (.one .dI) (ρ y) → (op = .eql → (execOp ρ o).run P m.w = .ok (.value (.bool true)) m.w) ∧ (op = .neq → (execOp ρ o).run P m.w = .ok (.value (.bool false)) m.w) := by
    intro g m ρ hx hy
    simp only [aA, au] at hx hy
    have hx : ρ x = .pointer none := by simpa using hx
    have hy : ρ y = .pointer none := by simpa using hy
    have he : (Op.equal xT (.pointer none) (.pointer none)).run P m.w = .ok true m.w := by
     unfold Op.equal; rw [show Op.maxDepth = 9999 + 1 from rfl]; unfold Op.equalIn; simp [run_underlying htd]
    constructor
    · rintro rfl; simp [execOp, ho, hx, hy, binOp, eqGuard, he]
    · rintro rfl; simp [execOp, ho, hx, hy, binOp, eqGuard, he]
   rcases fE h with ⟨e, h⟩ | ⟨e, h⟩
   · exact ⟨_, h, fun g m ρ hx hy => ⟨_, (run g m ρ hx hy).1 e, by simp only [au]⟩⟩
   · exact ⟨_, h, fun g m ρ hx hy => ⟨_, (run g m ρ hx hy).2 e, by simp only [au]⟩⟩
 · rename_i e q off hd
   rw [hd] at htd
   have run : ∀ (g : GG S) (m : Mem) (ρ : Operand → Value), aA K g m (.one (.ptr q off)) (ρ x) → aA K g m (.one .dI) (ρ y) → (op = .eql → (execOp ρ o).run P m.w = .ok (.value (.bool false)) m.w) ∧ (op = .neq → (execOp ρ o).run P m.w = .ok (.value (.bool true)) m.w) := by
    intro g m ρ hx hy
    simp only [aA, au] at hx hy
    obtain ⟨gh, b, _, _, hx⟩ := hx
    have hx : ρ x = .pointer (some ⟨b, off, none⟩) := by simpa using hx
    have hy : ρ y = .pointer none := by simpa using hy
    have he : (Op.equal xT (.pointer (some ⟨b, off, none⟩)) (.pointer none)).run P m.w = .ok false m.w := by
     unfold Op.equal; rw [show Op.maxDepth = 9999 + 1 from rfl]; unfold Op.equalIn; simp [run_underlying htd]
    constructor
    · rintro rfl; simp [execOp, ho, hx, hy, binOp, eqGuard, he]
    · rintro rfl; simp [execOp, ho, hx, hy, binOp, eqGuard, he]
   rcases fE h with ⟨e, h⟩ | ⟨e, h⟩
   · exact ⟨_, h, fun g m ρ hx hy => ⟨_, (run g m ρ hx hy).1 e, by simp only [au]⟩⟩
   · exact ⟨_, h, fun g m ρ hx hy => ⟨_, (run g m ρ hx hy).2 e, by simp only [au]⟩⟩
 · rename_i e q off hd
   rw [hd] at htd
   have run : ∀ (g : GG S) (m : Mem) (ρ : Operand → Value), aA K g m (.one .dI) (ρ x) → aA K g m (.one (.ptr q off)) (ρ y) → (op = .eql → (execOp ρ o).run P m.w = .ok (.value (.bool false)) m.w) ∧ (op = .neq → (execOp ρ o).run P m.w = .ok (.value (.bool true)) m.w) := by
    intro g m ρ hx hy
    simp only [aA, au] at hx hy
    obtain ⟨gh, b, _, _, hy⟩ := hy
    have hy : ρ y = .pointer (some ⟨b, off, none⟩) := by simpa using hy
    have hx : ρ x = .pointer none := by simpa using hx
    have he : (Op.equal xT (.pointer none) (.pointer (some ⟨b, off, none⟩))).run P m.w = .ok false m.w := by
     unfold Op.equal; rw [show Op.maxDepth = 9999 + 1 from rfl]; unfold Op.equalIn; simp [run_underlying htd]
    constructor
    · rintro rfl; simp [execOp, ho, hx, hy, binOp, eqGuard, he]
    · rintro rfl; simp [execOp, ho, hx, hy, binOp, eqGuard, he]
   rcases fE h with ⟨e, h⟩ | ⟨e, h⟩
   · exact ⟨_, h, fun g m ρ hx hy => ⟨_, (run g m ρ hx hy).1 e, by simp only [au]⟩⟩
   · exact ⟨_, h, fun g m ρ hx hy => ⟨_, (run g m ρ hx hy).2 e, by simp only [au]⟩⟩
 · rename_i hd
   rw [hd] at htd
   have hfd : ∃ d, P.underlying xT = some d ∧ aM d = true := by
    cases hu : P.underlying xT with
    | none => simp [LG, hu] at htd
    | some d => simp [LG, hu] at htd; exact ⟨d, rfl, htd⟩
   obtain ⟨d, hu, hfd⟩ := hfd
   have run : ∀ (g : GG S) (m : Mem) (ρ : Operand → Value), aA K g m (.one .aU) (ρ x) → aA K g m (.one .aU) (ρ y) → (op = .eql → (execOp ρ o).run P m.w = .ok (.value (.bool true)) m.w) ∧ (op = .neq → (execOp ρ o).run P m.w = .ok (.value (.bool false)) m.w) := by
    intro g m ρ hx hy
    simp only [aA, au] at hx hy
    have hx : ρ x = .nilFunc := by simpa using hx
    have hy : ρ y = .nilFunc := by simpa using hy
    have he : (Op.equal xT .nilFunc .nilFunc).run P m.w = .ok true m.w := by
     cases d <;> simp only [aM, Bool.false_eq_true] at hfd
     unfold Op.equal; rw [show Op.maxDepth = 9999 + 1 from rfl]; unfold Op.equalIn; simp [run_underlying hu]
    constructor
    · rintro rfl; simp [execOp, ho, hx, hy, binOp, eqGuard, he]
    · rintro rfl; simp [execOp, ho, hx, hy, binOp, eqGuard, he]
   rcases fE h with ⟨e, h⟩ | ⟨e, h⟩
   · exact ⟨_, h, fun g m ρ hx hy => ⟨_, (run g m ρ hx hy).1 e, by simp only [au]⟩⟩
   · exact ⟨_, h, fun g m ρ hx hy => ⟨_, (run g m ρ hx hy).2 e, by simp only [au]⟩⟩
 · rename_i f fs cs hd
   rw [hd] at htd
   have hfd : ∃ d, P.underlying xT = some d ∧ aM d = true := by
    cases hu : P.underlying xT with
    | none => simp [LG, hu] at htd
    | some d => simp [LG, hu] at htd; exact ⟨d, rfl, htd⟩
   obtain ⟨d, hu, hfd⟩ := hfd
   have run : ∀ (g : GG S) (m : Mem) (ρ : Operand → Value), aA K g m (.one (.fn f fs cs)) (ρ x) → aA K g m (.one .aU) (ρ y) → (op = .eql → (execOp ρ o).run P m.w = .ok (.value (.bool false)) m.w) ∧ (op = .neq → (execOp ρ o).run P m.w = .ok (.value (.bool true)) m.w) := by
    intro g m ρ hx hy
    simp only [aA, au] at hx hy
    obtain ⟨v1, v2, hx, _⟩ := hx
    have hx : ρ x = .func f v1.toArray v2.toArray := by simpa using hx
    have hy : ρ y = .nilFunc := by simpa using hy
    have he : (Op.equal xT (.func f v1.toArray v2.toArray) .nilFunc).run P m.w = .ok false m.w := by
     cases d <;> simp only [aM, Bool.false_eq_true] at hfd
     unfold Op.equal; rw [show Op.maxDepth = 9999 + 1 from rfl]; unfold Op.equalIn; simp [run_underlying hu]
    constructor
    · rintro rfl; simp [execOp, ho, hx, hy, binOp, eqGuard, he]
    · rintro rfl; simp [execOp, ho, hx, hy, binOp, eqGuard, he]
   rcases fE h with ⟨e, h⟩ | ⟨e, h⟩
   · exact ⟨_, h, fun g m ρ hx hy => ⟨_, (run g m ρ hx hy).1 e, by simp only [au]⟩⟩
   · exact ⟨_, h, fun g m ρ hx hy => ⟨_, (run g m ρ hx hy).2 e, by simp only [au]⟩⟩
 · rename_i e hd
   rw [hd] at htd
   have run : ∀ (g : GG S) (m : Mem) (ρ : Operand → Value), aA K g m (.one .bI) (ρ x) → aA K g m (.one .bI) (ρ y) → (op = .eql → (execOp ρ o).run P m.w = .ok (.value (.bool true)) m.w) ∧ (op = .neq → (execOp ρ o).run P m.w = .ok (.value (.bool false)) m.w) := by
    intro g m ρ hx hy
    simp only [aA, au] at hx hy
    have hx : ρ x = .slice none 0 0 := by simpa using hx
    have hy : ρ y = .slice none 0 0 := by simpa using hy
    constructor
    · rintro rfl; simpa using uO (w := m.w) ho hx hy htd
    · rintro rfl; simpa using uP (w := m.w) ho hx hy htd
   rcases fE h with ⟨e, h⟩ | ⟨e, h⟩
   · exact ⟨_, h, fun g m ρ hx hy => ⟨_, (run g m ρ hx hy).1 e, by simp only [au]⟩⟩
   · exact ⟨_, h, fun g m ρ hx hy => ⟨_, (run g m ρ hx hy).2 e, by simp only [au]⟩⟩
 · rename_i e c l hd
   rw [hd] at htd
   have run : ∀ (g : GG S) (m : Mem) (ρ : Operand → Value), aA K g m (.one (.sl c l)) (ρ x) → aA K g m (.one .bI) (ρ y) → ∃ b : Bool, (b = true → l.isEmpty = true) ∧ (op = .eql → (execOp ρ o).run P m.w = .ok (.value (.bool b)) m.w) ∧ (op = .neq → (execOp ρ o).run P m.w = .ok (.value (.bool (!b))) m.w) := by
    intro g m ρ hx hy
    simp only [aA, au] at hx hy
    obtain ⟨a, cap, hx, hE⟩ := hx
    have hx : ρ x = .slice a l.length cap := by simpa using hx
    have hy : ρ y = .slice none 0 0 := by simpa using hy
    refine ⟨a.isNone, fun hi => by rw [cC.xg hE hi]; rfl, ?_, ?_⟩
    · rintro rfl; exact uO (w := m.w) ho hx hy htd
    · rintro rfl; exact uP (w := m.w) ho hx hy htd
   rcases fE h with ⟨e, h⟩ | ⟨e, h⟩
   · exact ⟨_, h, fun g m ρ hx hy => (let ⟨b, k1, k2, k3⟩ := run g m ρ hx hy; ⟨_, k2 e, by simp only [au]; exact ⟨b, rfl, fun hb => k1 (by cases b <;> simp_all)⟩⟩)⟩
   · exact ⟨_, h, fun g m ρ hx hy => (let ⟨b, k1, k2, k3⟩ := run g m ρ hx hy; ⟨_, k3 e, by simp only [au]; exact ⟨!b, rfl, fun hb => k1 (by cases b <;> simp_all)⟩⟩)⟩
 · rename_i e q c z l hd
   rw [hd] at htd
   have run : ∀ (g : GG S) (m : Mem) (ρ : Operand → Value), aA K g m (.one (.rw q c (z :: l))) (ρ x) → aA K g m (.one .bI) (ρ y) → (op = .eql → (execOp ρ o).run P m.w = .ok (.value (.bool false)) m.w) ∧ (op = .neq → (execOp ρ o).run P m.w = .ok (.value (.bool true)) m.w) := by
    intro g m ρ hx hy
    simp only [aA, au] at hx hy
    obtain ⟨gh, l0, ad, _, hx, hE, _⟩ := hx
    have hx : ρ x = .slice ad (z :: l).length (gh.cap - l0.length) := by simpa using hx
    have hy : ρ y = .slice none 0 0 := by simpa using hy
    have hn : ad.isNone = false := by
     cases hi : ad.isNone with
     | false => rfl
     | true => exact absurd (cC.xg hE hi) (by simp)
    constructor
    · rintro rfl; rw [← hn]; exact uO (w := m.w) ho hx hy htd
    · rintro rfl; rw [show true = !ad.isNone by rw [hn]; rfl]; exact uP (w := m.w) ho hx hy htd
   rcases fE h with ⟨e, h⟩ | ⟨e, h⟩
   · exact ⟨_, h, fun g m ρ hx hy => ⟨_, (run g m ρ hx hy).1 e, by simp only [au]⟩⟩
   · exact ⟨_, h, fun g m ρ hx hy => ⟨_, (run g m ρ hx hy).2 e, by simp only [au]⟩⟩
 · rename_i n e n1 F n2 F2 hd
   rw [hd] at htd
   obtain ⟨ei, hei, h'⟩ := Option.bind_eq_some_iff.1 h
   clear h; have h := h'; clear h'
   have hety := hT.ty e ei hei
   split at h
   · rename_i hed hn
     simp only [Bool.and_eq_true, Nat.beq_eq] at hn
     obtain ⟨⟨⟨rfl, rfl⟩, rfl⟩, hqe⟩ := hn
     have hetd := hety.td
     rw [hed] at hetd
     have hag : gR P e = some (false, 1) := by
      have hi := hety.info; have h1 := hety.one (by rw [hed]; rfl)
      obtain ⟨inf, hinf, _, hsz, _⟩ := info_parts hi
      simp only [LG] at hetd
      simp [gR, hetd, hinf, rq, hsz, h1]
     have run : ∀ (g : GG S) (m : Mem) (ρ : Operand → Value), aA K g m (.agg [.a8 32 F]) (ρ x) → aA K g m (.agg [.a8 32 F2]) (ρ y) → (op = .eql → (execOp ρ o).run P m.w = .ok (.value (.bool (gL F F2))) m.w) ∧ (op = .neq → (execOp ρ o).run P m.w = .ok (.value (.bool (!gL F F2))) m.w) := by
      intro g m ρ hx hy
      simp only [aA] at hx hy
      obtain ⟨c1, hx, h1⟩ := hx
      obtain ⟨c2, hy, h2⟩ := hy
      have h1 := jJ h1; have h2 := jJ h2
      simp only [au] at h1 h2
      subst h1; subst h2
      have hg : P.eqGuardType P.depth xT = false := (hT.eq xT ti hti hqe).guard
      constructor
      · rintro rfl; exact ny ho hx hy hg (xN htd hetd hag F F2)
      · rintro rfl; exact ny ho hx hy hg (DE htd hetd hag F F2)
     rcases fE h with ⟨e, h⟩ | ⟨e, h⟩
     · exact ⟨_, h, fun g m ρ hx hy => ⟨_, (run g m ρ hx hy).1 e, by simp only [Mc, au]⟩⟩
     · exact ⟨_, h, fun g m ρ hx hy => ⟨_, (run g m ρ hx hy).2 e, by simp only [Jv, au]⟩⟩
   · cases h
 · rename_i fs vs ws hd
   split at h
   · rename_i heq
     simp only [Bool.and_eq_true] at heq
     obtain ⟨⟨heq, hkv⟩, hkw⟩ := heq
     obtain ⟨p, hp, h'⟩ := Option.bind_eq_some_iff.1 h
     clear h; have h := h'; clear h'
     have hE := hT.eq xT ti hti heq
     have run : ∀ (g : GG S) (m : Mem) (ρ : Operand → Value), aA K g m (.agg vs) (ρ x) → aA K g m (.agg ws) (ρ y) → (op = .eql → (execOp ρ o).run P m.w = .ok (.value (.bool (@decide p.1 p.2))) m.w) ∧ (op = .neq → (execOp ρ o).run P m.w = .ok (.value (.bool (!@decide p.1 p.2))) m.w) := by
      intro g m ρ hx hy
      simp only [aA] at hx hy
      obtain ⟨c1, hx, h1⟩ := hx
      obtain ⟨c2, hy, h2⟩ := hy
      have he := hE.eql g m vs ws p c1 c2 m.w hkv hkw hp h1 h2
      constructor
      · rintro rfl; exact ny ho hx hy hE.guard he
      · rintro rfl; exact ny ho hx hy hE.guard (F6 he)
     rcases fE h with ⟨e, h⟩ | ⟨e, h⟩
     · exact ⟨_, h, fun g m ρ hx hy => ⟨_, (run g m ρ hx hy).1 e, by simp only [Jx, au]⟩⟩
     · exact ⟨_, h, fun g m ρ hx hy => ⟨_, (run g m ρ hx hy).2 e, by simp only [Jv, au]⟩⟩
   · cases h
 · cases h
end
end E
end Go.Proofs.YtekpafdhgkocaaaGreat
