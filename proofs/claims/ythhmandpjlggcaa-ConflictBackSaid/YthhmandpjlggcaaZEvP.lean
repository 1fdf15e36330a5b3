/- Part of what the laws need: plain words, the walker and its laws, the program's functions. -/
import Derived.Test.YthhmandpjlggcaaZEvO
namespace Go.Proofs.Ythhmandpjlggcaa
open Go.RowKit G
namespace E
variable {S : Nat → Type} {tb : Tb S} {K : TbOK tb} {P : Program} {o : Oper}
theorem StepTo.val {a : Act} {w : World} {v : Value} {Post : Value → World → Prop} (h : (execOp a.eval o).run P w = .ok (.value v) w) (hp : Post v w) : StepTo P o a w Post := by
  unfold StepTo; rw [h]; exact hp
theorem num_val {g : GG S} {m : Mem} {v : CV S} {k : IntKind} {x : Int} {u : Value} (h : num v = some (k, x)) (hv : cvR K g m v [u]) : u = .int k x ∧ (k = .u8 → ∃ c : UInt8, x = (c.toNat : Int)) := by
  cases v <;> simp only [num] at h <;> try (cases h; done)
  · split at h
    · cases h
    · rename_i hk
      cases h
      simp only [cvR] at hv
      exact ⟨by simpa using hv, fun e => absurd e hk⟩
  · cases h
    simp only [cvR] at hv
    exact ⟨by simpa using hv, fun _ => ⟨_, rfl⟩⟩
theorem mkI_ok {g : GG S} {m : Mem} {k : IntKind} {x : Int} (h : k = .u8 → x = ((G.u8 x).toNat : Int)) : cvR K g m (mkI k x) [.int k x] := by
  unfold mkI
  split
  · simp only [cvR]; rw [← h rfl]
  · simp only [cvR]
theorem wrI_ok {g : GG S} {m : Mem} {k : IntKind} {x : Int} : cvR K g m (wrI k x) [.int k (k.wrap x)] := by
  unfold wrI
  split
  · simp only [cvR]; rw [u8_wrap]
  · simp only [cvR]
section
variable {γ : Type} {k : CV S → Option γ} {r : γ} {x y : Operand} {xT yT : TypeId} {op : BinOp}
def BinOK (P : Program) (K : TbOK tb) (o : Oper) (v : CV S) (a b : Value) (ρ : Operand → Value) (g : GG S) (m : Mem) : Prop := ∃ u, (execOp ρ o).run P m.w = .ok (.value u) m.w ∧ cvR K g m v [u]
theorem lit_pos {z : Int} {kw : IntKind} {ρ : Operand → Value} (hρ : ∀ c, ρ (.const c) = c) (h : litPos y = true) (hy : ρ y = .int kw z) : 0 < z := by
  unfold litPos at h
  split at h
  · rw [hρ] at hy; cases hy; simpa using h
  · cases h
theorem lit_nn {z : Int} {kw : IntKind} {ρ : Operand → Value} (hρ : ∀ c, ρ (.const c) = c) (h : litNN y = true) (hy : ρ y = .int kw z) : 0 ≤ z := by
  unfold litNN at h
  split at h
  · rw [hρ] at hy; cases hy; simpa using h
  · cases h
theorem numK_ok {kv kw : IntKind} {i z : Int} (ho : o.op = .binOp op xT x y yT) (hk8 : kv = .u8 → ∃ c : UInt8, i = (c.toNat : Int)) (h : numK op kv kw i z y k = some r) :
    ∃ v, k v = some r ∧ ∀ (g : GG S) (m : Mem) (ρ : Operand → Value), (∀ c, ρ (.const c) = c) → ρ x = .int kv i → ρ y = .int kw z → BinOK P K o v (.int kv i) (.int kw z) ρ g m := by
  have h8 : ∀ {t : Int}, (∃ q, t = IntKind.u8.wrap q) → t = ((G.u8 t).toNat : Int) := fun h => u8_wrapped h
  have wr : ∀ (kk : IntKind) (q : Int), kk = .u8 → ∃ t, kk.wrap q = IntKind.u8.wrap t := fun kk q e => ⟨q, by rw [e]⟩
  unfold numK at h
  split at h
  · have key : ∀ {g : GG S} {m : Mem} {ρ : Operand → Value}, 0 ≤ z → ρ x = .int kv i → ρ y = .int kw z → BinOK P K o (mkI kv (ishl kv i z)) (.int kv i) (.int kw z) ρ g m := fun hz hx hy =>
      ⟨_, run_shl hz ho hx hy, mkI_ok fun e => by subst e; exact h8 ⟨_, rfl⟩⟩
    split at h
    · rename_i hl; exact ⟨_, h, fun g m ρ hρ hx hy => key (lit_nn hρ hl hy) hx hy⟩
    · obtain ⟨u, hu, h⟩ := Option.bind_eq_some_iff.1 h
      exact ⟨_, h, fun g m ρ hρ hx hy => key (chk_some hu) hx hy⟩
  · have key : ∀ {g : GG S} {m : Mem} {ρ : Operand → Value}, 0 ≤ z → ρ x = .int kv i → ρ y = .int kw z → BinOK P K o (mkI kv (ishr kv i z)) (.int kv i) (.int kw z) ρ g m := fun hz hx hy =>
      ⟨_, run_shr hz ho hx hy, mkI_ok fun e => by obtain ⟨c, rfl⟩ := hk8 e; subst e; exact u8_shr _ _⟩
    split at h
    · rename_i hl; exact ⟨_, h, fun g m ρ hρ hx hy => key (lit_nn hρ hl hy) hx hy⟩
    · obtain ⟨u, hu, h⟩ := Option.bind_eq_some_iff.1 h
      exact ⟨_, h, fun g m ρ hρ hx hy => key (chk_some hu) hx hy⟩
  · split at h
    · cases h
    · rename_i hkk _
      subst hkk
      split at h
      iterate 6 (
        refine ⟨_, h, fun g m ρ hρ hx hy => ⟨_, by simp [execOp, ho, hx, hy, binOp, Op.intCmp, eqGuard] <;> rfl, by simp only [boP, boEq, boNe, cvR]⟩⟩)
      iterate 3 (
        refine ⟨_, h, fun g m ρ hρ hx hy => ⟨_, by simp [execOp, ho, hx, hy, binOp, Op.intArith, eqGuard] <;> rfl, wrI_ok⟩⟩)
      iterate 4 (
        refine ⟨_, h, fun g m ρ hρ hx hy => ⟨_, by simp [execOp, ho, hx, hy, binOp, Op.intBits, eqGuard, band, bor, bxor, bandNot], mkI_ok fun e => by subst e; exact h8 ⟨_, rfl⟩⟩⟩)
      · have key : ∀ {g : GG S} {m : Mem} {ρ : Operand → Value}, z ≠ 0 → ρ x = .int kv i → ρ y = .int kv z → BinOK P K o (wrI kv (Int.tdiv i z)) (.int kv i) (.int kv z) ρ g m := fun hz hx hy =>
          ⟨_, run_quo hz ho hx hy (.inl ⟨rfl, rfl⟩), wrI_ok⟩
        split at h
        · rename_i hl; exact ⟨_, h, fun g m ρ hρ hx hy => key (by have := lit_pos hρ hl hy; omega) hx hy⟩
        · obtain ⟨u, hu, h⟩ := Option.bind_eq_some_iff.1 h
          exact ⟨_, h, fun g m ρ hρ hx hy => key (chk_some hu) hx hy⟩
      · split at h
        · cases h
        · have key : ∀ {g : GG S} {m : Mem} {ρ : Operand → Value}, z ≠ 0 → ρ x = .int kv i → ρ y = .int kv z → BinOK P K o (.int kv (Int.tmod i z)) (.int kv i) (.int kv z) ρ g m := fun hz hx hy =>
            ⟨_, run_quo hz ho hx hy (.inr ⟨rfl, rfl⟩), by simp only [cvR]⟩
          split at h
          · rename_i hl; exact ⟨_, h, fun g m ρ hρ hx hy => key (by have := lit_pos hρ hl hy; omega) hx hy⟩
          · obtain ⟨u, hu, h⟩ := Option.bind_eq_some_iff.1 h
            exact ⟨_, h, fun g m ρ hρ hx hy => key (chk_some hu) hx hy⟩
      · cases h
theorem eqOut_ok {A B : CV S} (h : eqOut op A B k = some r) : (op = .eql ∧ k A = some r) ∨ (op = .neq ∧ k B = some r) := by
  unfold eqOut at h
  split at h
  · exact .inl ⟨rfl, h⟩
  · exact .inr ⟨rfl, h⟩
  · cases h
theorem bit_val {g : GG S} {m : Mem} {v : CV S} {b : Bool} {u : Value} (h : bit v = some b) (hv : cvR K g m v [u]) : u = .bool b := by
  cases v <;> simp only [bit] at h <;> try (cases h; done)
  · cases h; simp only [cvR] at hv; simpa using hv
  · cases h; simp only [cvR] at hv; simpa using hv
variable {tt : TypeId → Option (TI S)} {a b : AV S}
theorem run_neqOf {t : TypeId} {u v : Array Value} {b : Bool} {w : World} (h : (binOp .eql t (.agg u) (.agg v)).run P w = .ok (.bool b) w) : (binOp .neq t (.agg u) (.agg v)).run P w = .ok (.bool (!b)) w := by
  simp only [binOp, Sem.run_bind, Sem.run_pure] at h ⊢
  cases he : (Op.equal t (.agg u) (.agg v)).run P w with
  | ok c w' => rw [he] at h; simp only [Result.andThen_ok, Result.ok.injEq, Value.bool.injEq] at h; obtain ⟨rfl, rfl⟩ := h; rfl
  | halt x w' => rw [he] at h; simp [Result.andThen] at h
theorem eqK_ok (hT : TTOK P K tt) (ho : o.op = .binOp op xT x y yT) (h : eqK tt op xT a b k = some r) :
    ∃ v, k v = some r ∧ ∀ (g : GG S) (m : Mem) (ρ : Operand → Value), avR K g m a (ρ x) → avR K g m b (ρ y) → ∃ u, (execOp ρ o).run P m.w = .ok (.value u) m.w ∧ cvR K g m v [u] := by
  unfold eqK at h
  obtain ⟨ti, hti, h'⟩ := Option.bind_eq_some_iff.1 h
  clear h; have h := h'; clear h'
  have hty := hT.ty xT ti hti
  have htd := hty.td
  split at h
  ·
    rename_i X Z hd
    have run : ∀ (g : GG S) (m : Mem) (ρ : Operand → Value), avR K g m (.one (.str X)) (ρ x) → avR K g m (.one (.str Z)) (ρ y) → (op = .eql → (execOp ρ o).run P m.w = .ok (.value (.bool (decide (X = Z)))) m.w) ∧ (op = .neq → (execOp ρ o).run P m.w = .ok (.value (.bool (!decide (X = Z)))) m.w) := by
      intro g m ρ hx hy
      simp only [avR, cvR] at hx hy
      have hx : ρ x = .string (Proofs.Ythhmandpjlggcaa.str X) := by simpa using hx
      have hy : ρ y = .string (Proofs.Ythhmandpjlggcaa.str Z) := by simpa using hy
      constructor
      · rintro rfl; simp [execOp, ho, hx, hy, binOp, Op.stringOp, eqGuard] <;> (rw [Bool.eq_iff_iff]; simp)
      · rintro rfl; simp [execOp, ho, hx, hy, binOp, Op.stringOp, eqGuard] <;> (rw [Bool.eq_iff_iff]; simp)
    rcases eqOut_ok h with ⟨e, h⟩ | ⟨e, h⟩
    · exact ⟨_, h, fun g m ρ hx hy => ⟨_, (run g m ρ hx hy).1 e, by simp only [boP, cvR]⟩⟩
    · exact ⟨_, h, fun g m ρ hx hy => ⟨_, (run g m ρ hx hy).2 e, by simp only [boN, cvR]⟩⟩
  ·
    rename_i V W hd
    rw [hd] at htd
    obtain ⟨bx, hbx, h⟩ := Option.bind_eq_some_iff.1 h
    obtain ⟨bz, hbz, h⟩ := Option.bind_eq_some_iff.1 h
    have run : ∀ (g : GG S) (m : Mem) (ρ : Operand → Value), avR K g m (.one V) (ρ x) → avR K g m (.one W) (ρ y) → (op = .eql → (execOp ρ o).run P m.w = .ok (.value (.bool (bx == bz))) m.w) ∧ (op = .neq → (execOp ρ o).run P m.w = .ok (.value (.bool (!(bx == bz)))) m.w) := by
      intro g m ρ hx hy
      simp only [avR] at hx hy
      have hx := bit_val hbx hx
      have hy := bit_val hbz hy
      have he : (Op.equal xT (.bool bx) (.bool bz)).run P m.w = .ok (bx == bz) m.w := by
        unfold Op.equal; rw [show Op.maxDepth = 9999 + 1 from rfl]; unfold Op.equalIn; simp [run_underlying htd]
      constructor
      · rintro rfl; simp [execOp, ho, hx, hy, binOp, eqGuard, he]
      · rintro rfl; simp [execOp, ho, hx, hy, binOp, eqGuard, he]
    rcases eqOut_ok h with ⟨e, h⟩ | ⟨e, h⟩
    · exact ⟨_, h, fun g m ρ hx hy => ⟨_, (run g m ρ hx hy).1 e, by simp only [boEq, cvR]⟩⟩
    · exact ⟨_, h, fun g m ρ hx hy => ⟨_, (run g m ρ hx hy).2 e, by simp only [boNe, cvR]; rfl⟩⟩
  · rename_i e hd
    rw [hd] at htd
    have run : ∀ (g : GG S) (m : Mem) (ρ : Operand → Value), avR K g m (.one .nilP) (ρ x) → avR K g m (.one .nilP) (ρ y) → (op = .eql → (execOp ρ o).run P m.w = .ok (.value (.bool true)) m.w) ∧ (op = .neq → (execOp ρ o).run P m.w = .ok (.value (.bool false)) m.w) := by
      intro g m ρ hx hy
      simp only [avR, cvR] at hx hy
      have hx : ρ x = .pointer none := by simpa using hx
      have hy : ρ y = .pointer none := by simpa using hy
      have he : (Op.equal xT (.pointer none) (.pointer none)).run P m.w = .ok true m.w := by
        unfold Op.equal; rw [show Op.maxDepth = 9999 + 1 from rfl]; unfold Op.equalIn; simp [run_underlying htd]
      constructor
      · rintro rfl; simp [execOp, ho, hx, hy, binOp, eqGuard, he]
      · rintro rfl; simp [execOp, ho, hx, hy, binOp, eqGuard, he]
    rcases eqOut_ok h with ⟨e, h⟩ | ⟨e, h⟩
    · exact ⟨_, h, fun g m ρ hx hy => ⟨_, (run g m ρ hx hy).1 e, by simp only [cvR]⟩⟩
    · exact ⟨_, h, fun g m ρ hx hy => ⟨_, (run g m ρ hx hy).2 e, by simp only [cvR]⟩⟩
  · rename_i e q off hd
    rw [hd] at htd
    have run : ∀ (g : GG S) (m : Mem) (ρ : Operand → Value), avR K g m (.one (.ptr q off)) (ρ x) → avR K g m (.one .nilP) (ρ y) → (op = .eql → (execOp ρ o).run P m.w = .ok (.value (.bool false)) m.w) ∧ (op = .neq → (execOp ρ o).run P m.w = .ok (.value (.bool true)) m.w) := by
      intro g m ρ hx hy
      simp only [avR, cvR] at hx hy
      obtain ⟨gh, b, _, _, hx⟩ := hx
      have hx : ρ x = .pointer (some ⟨b, off, none⟩) := by simpa using hx
      have hy : ρ y = .pointer none := by simpa using hy
      have he : (Op.equal xT (.pointer (some ⟨b, off, none⟩)) (.pointer none)).run P m.w = .ok false m.w := by
        unfold Op.equal; rw [show Op.maxDepth = 9999 + 1 from rfl]; unfold Op.equalIn; simp [run_underlying htd]
      constructor
      · rintro rfl; simp [execOp, ho, hx, hy, binOp, eqGuard, he]
      · rintro rfl; simp [execOp, ho, hx, hy, binOp, eqGuard, he]
    rcases eqOut_ok h with ⟨e, h⟩ | ⟨e, h⟩
    · exact ⟨_, h, fun g m ρ hx hy => ⟨_, (run g m ρ hx hy).1 e, by simp only [cvR]⟩⟩
    · exact ⟨_, h, fun g m ρ hx hy => ⟨_, (run g m ρ hx hy).2 e, by simp only [cvR]⟩⟩
  · rename_i e q off hd
    rw [hd] at htd
    have run : ∀ (g : GG S) (m : Mem) (ρ : Operand → Value), avR K g m (.one .nilP) (ρ x) → avR K g m (.one (.ptr q off)) (ρ y) → (op = .eql → (execOp ρ o).run P m.w = .ok (.value (.bool false)) m.w) ∧ (op = .neq → (execOp ρ o).run P m.w = .ok (.value (.bool true)) m.w) := by
      intro g m ρ hx hy
      simp only [avR, cvR] at hx hy
      obtain ⟨gh, b, _, _, hy⟩ := hy
      have hy : ρ y = .pointer (some ⟨b, off, none⟩) := by simpa using hy
      have hx : ρ x = .pointer none := by simpa using hx
      have he : (Op.equal xT (.pointer none) (.pointer (some ⟨b, off, none⟩))).run P m.w = .ok false m.w := by
        unfold Op.equal; rw [show Op.maxDepth = 9999 + 1 from rfl]; unfold Op.equalIn; simp [run_underlying htd]
      constructor
      · rintro rfl; simp [execOp, ho, hx, hy, binOp, eqGuard, he]
      · rintro rfl; simp [execOp, ho, hx, hy, binOp, eqGuard, he]
    rcases eqOut_ok h with ⟨e, h⟩ | ⟨e, h⟩
    · exact ⟨_, h, fun g m ρ hx hy => ⟨_, (run g m ρ hx hy).1 e, by simp only [cvR]⟩⟩
    · exact ⟨_, h, fun g m ρ hx hy => ⟨_, (run g m ρ hx hy).2 e, by simp only [cvR]⟩⟩
  · rename_i hd
    rw [hd] at htd
    have hfd : ∃ d, P.underlying xT = some d ∧ isFuncD d = true := by
      cases hu : P.underlying xT with
      | none => simp [tdR, hu] at htd
      | some d => simp [tdR, hu] at htd; exact ⟨d, rfl, htd⟩
    obtain ⟨d, hu, hfd⟩ := hfd
    have run : ∀ (g : GG S) (m : Mem) (ρ : Operand → Value), avR K g m (.one .nilF) (ρ x) → avR K g m (.one .nilF) (ρ y) → (op = .eql → (execOp ρ o).run P m.w = .ok (.value (.bool true)) m.w) ∧ (op = .neq → (execOp ρ o).run P m.w = .ok (.value (.bool false)) m.w) := by
      intro g m ρ hx hy
      simp only [avR, cvR] at hx hy
      have hx : ρ x = .nilFunc := by simpa using hx
      have hy : ρ y = .nilFunc := by simpa using hy
      have he : (Op.equal xT .nilFunc .nilFunc).run P m.w = .ok true m.w := by
        cases d <;> simp only [isFuncD, Bool.false_eq_true] at hfd
        unfold Op.equal; rw [show Op.maxDepth = 9999 + 1 from rfl]; unfold Op.equalIn; simp [run_underlying hu]
      constructor
      · rintro rfl; simp [execOp, ho, hx, hy, binOp, eqGuard, he]
      · rintro rfl; simp [execOp, ho, hx, hy, binOp, eqGuard, he]
    rcases eqOut_ok h with ⟨e, h⟩ | ⟨e, h⟩
    · exact ⟨_, h, fun g m ρ hx hy => ⟨_, (run g m ρ hx hy).1 e, by simp only [cvR]⟩⟩
    · exact ⟨_, h, fun g m ρ hx hy => ⟨_, (run g m ρ hx hy).2 e, by simp only [cvR]⟩⟩
  · rename_i f fs cs hd
    rw [hd] at htd
    have hfd : ∃ d, P.underlying xT = some d ∧ isFuncD d = true := by
      cases hu : P.underlying xT with
      | none => simp [tdR, hu] at htd
      | some d => simp [tdR, hu] at htd; exact ⟨d, rfl, htd⟩
    obtain ⟨d, hu, hfd⟩ := hfd
    have run : ∀ (g : GG S) (m : Mem) (ρ : Operand → Value), avR K g m (.one (.fn f fs cs)) (ρ x) → avR K g m (.one .nilF) (ρ y) → (op = .eql → (execOp ρ o).run P m.w = .ok (.value (.bool false)) m.w) ∧ (op = .neq → (execOp ρ o).run P m.w = .ok (.value (.bool true)) m.w) := by
      intro g m ρ hx hy
      simp only [avR, cvR] at hx hy
      obtain ⟨v1, v2, hx, _⟩ := hx
      have hx : ρ x = .func f v1.toArray v2.toArray := by simpa using hx
      have hy : ρ y = .nilFunc := by simpa using hy
      have he : (Op.equal xT (.func f v1.toArray v2.toArray) .nilFunc).run P m.w = .ok false m.w := by
        cases d <;> simp only [isFuncD, Bool.false_eq_true] at hfd
        unfold Op.equal; rw [show Op.maxDepth = 9999 + 1 from rfl]; unfold Op.equalIn; simp [run_underlying hu]
      constructor
      · rintro rfl; simp [execOp, ho, hx, hy, binOp, eqGuard, he]
      · rintro rfl; simp [execOp, ho, hx, hy, binOp, eqGuard, he]
    rcases eqOut_ok h with ⟨e, h⟩ | ⟨e, h⟩
    · exact ⟨_, h, fun g m ρ hx hy => ⟨_, (run g m ρ hx hy).1 e, by simp only [cvR]⟩⟩
    · exact ⟨_, h, fun g m ρ hx hy => ⟨_, (run g m ρ hx hy).2 e, by simp only [cvR]⟩⟩
  · rename_i e hd
    rw [hd] at htd
    have run : ∀ (g : GG S) (m : Mem) (ρ : Operand → Value), avR K g m (.one .nilS) (ρ x) → avR K g m (.one .nilS) (ρ y) → (op = .eql → (execOp ρ o).run P m.w = .ok (.value (.bool true)) m.w) ∧ (op = .neq → (execOp ρ o).run P m.w = .ok (.value (.bool false)) m.w) := by
      intro g m ρ hx hy
      simp only [avR, cvR] at hx hy
      have hx : ρ x = .slice none 0 0 := by simpa using hx
      have hy : ρ y = .slice none 0 0 := by simpa using hy
      constructor
      · rintro rfl; simpa using run_nilEq (w := m.w) ho hx hy htd
      · rintro rfl; simpa using run_nilNe (w := m.w) ho hx hy htd
    rcases eqOut_ok h with ⟨e, h⟩ | ⟨e, h⟩
    · exact ⟨_, h, fun g m ρ hx hy => ⟨_, (run g m ρ hx hy).1 e, by simp only [cvR]⟩⟩
    · exact ⟨_, h, fun g m ρ hx hy => ⟨_, (run g m ρ hx hy).2 e, by simp only [cvR]⟩⟩
  · rename_i e c l hd
    rw [hd] at htd
    have run : ∀ (g : GG S) (m : Mem) (ρ : Operand → Value), avR K g m (.one (.sl c l)) (ρ x) → avR K g m (.one .nilS) (ρ y) → ∃ b : Bool, (b = true → l.isEmpty = true) ∧ (op = .eql → (execOp ρ o).run P m.w = .ok (.value (.bool b)) m.w) ∧ (op = .neq → (execOp ρ o).run P m.w = .ok (.value (.bool (!b))) m.w) := by
      intro g m ρ hx hy
      simp only [avR, cvR] at hx hy
      obtain ⟨a, cap, hx, hE⟩ := hx
      have hx : ρ x = .slice a l.length cap := by simpa using hx
      have hy : ρ y = .slice none 0 0 := by simpa using hy
      refine ⟨a.isNone, fun hi => by rw [Els.isNone_nil hE hi]; rfl, ?_, ?_⟩
      · rintro rfl; exact run_nilEq (w := m.w) ho hx hy htd
      · rintro rfl; exact run_nilNe (w := m.w) ho hx hy htd
    rcases eqOut_ok h with ⟨e, h⟩ | ⟨e, h⟩
    · exact ⟨_, h, fun g m ρ hx hy => (let ⟨b, k1, k2, k3⟩ := run g m ρ hx hy; ⟨_, k2 e, by simp only [cvR]; exact ⟨b, rfl, fun hb => k1 (by cases b <;> simp_all)⟩⟩)⟩
    · exact ⟨_, h, fun g m ρ hx hy => (let ⟨b, k1, k2, k3⟩ := run g m ρ hx hy; ⟨_, k3 e, by simp only [cvR]; exact ⟨!b, rfl, fun hb => k1 (by cases b <;> simp_all)⟩⟩)⟩
  · rename_i e q c z l hd
    rw [hd] at htd
    have run : ∀ (g : GG S) (m : Mem) (ρ : Operand → Value), avR K g m (.one (.rw q c (z :: l))) (ρ x) → avR K g m (.one .nilS) (ρ y) → (op = .eql → (execOp ρ o).run P m.w = .ok (.value (.bool false)) m.w) ∧ (op = .neq → (execOp ρ o).run P m.w = .ok (.value (.bool true)) m.w) := by
      intro g m ρ hx hy
      simp only [avR, cvR] at hx hy
      obtain ⟨gh, l0, ad, _, hx, hE, _⟩ := hx
      have hx : ρ x = .slice ad (z :: l).length (gh.cap - l0.length) := by simpa using hx
      have hy : ρ y = .slice none 0 0 := by simpa using hy
      have hn : ad.isNone = false := by
        cases hi : ad.isNone with
        | false => rfl
        | true => exact absurd (Els.isNone_nil hE hi) (by simp)
      constructor
      · rintro rfl; rw [← hn]; exact run_nilEq (w := m.w) ho hx hy htd
      · rintro rfl; rw [show true = !ad.isNone by rw [hn]; rfl]; exact run_nilNe (w := m.w) ho hx hy htd
    rcases eqOut_ok h with ⟨e, h⟩ | ⟨e, h⟩
    · exact ⟨_, h, fun g m ρ hx hy => ⟨_, (run g m ρ hx hy).1 e, by simp only [cvR]⟩⟩
    · exact ⟨_, h, fun g m ρ hx hy => ⟨_, (run g m ρ hx hy).2 e, by simp only [cvR]⟩⟩
  · rename_i n e n1 F n2 F2 hd
    rw [hd] at htd
    obtain ⟨ei, hei, h'⟩ := Option.bind_eq_some_iff.1 h
    clear h; have h := h'; clear h'
    have hety := hT.ty e ei hei
    split at h
    · rename_i hed hn
      simp only [Bool.and_eq_true, Nat.beq_eq] at hn
      obtain ⟨⟨⟨rfl, rfl⟩, rfl⟩, hqe⟩ := hn
      have hetd := hety.td
      rw [hed] at hetd
      have hag : aggOf P e = some (false, 1) := by
        have hi := hety.info; have h1 := hety.one (by rw [hed]; rfl)
        obtain ⟨inf, hinf, _, hsz, _⟩ := info_parts hi
        simp only [tdR] at hetd
        simp [aggOf, hetd, hinf, isAggD, hsz, h1]
      have run : ∀ (g : GG S) (m : Mem) (ρ : Operand → Value), avR K g m (.agg [.a8 32 F]) (ρ x) → avR K g m (.agg [.a8 32 F2]) (ρ y) → (op = .eql → (execOp ρ o).run P m.w = .ok (.value (.bool (hashEq F F2))) m.w) ∧ (op = .neq → (execOp ρ o).run P m.w = .ok (.value (.bool (!hashEq F F2))) m.w) := by
        intro g m ρ hx hy
        simp only [avR] at hx hy
        obtain ⟨c1, hx, h1⟩ := hx
        obtain ⟨c2, hy, h2⟩ := hy
        have h1 := cvsR_one h1; have h2 := cvsR_one h2
        simp only [cvR] at h1 h2
        subst h1; subst h2
        have hg : P.eqGuardType P.depth xT = false := (hT.eq xT ti hti hqe).guard
        constructor
        · rintro rfl; exact run_binAgg ho hx hy hg (run_eqHash htd hetd hag F F2)
        · rintro rfl; exact run_binAgg ho hx hy hg (run_neHash htd hetd hag F F2)
      rcases eqOut_ok h with ⟨e, h⟩ | ⟨e, h⟩
      · exact ⟨_, h, fun g m ρ hx hy => ⟨_, (run g m ρ hx hy).1 e, by simp only [boB, cvR]⟩⟩
      · exact ⟨_, h, fun g m ρ hx hy => ⟨_, (run g m ρ hx hy).2 e, by simp only [boN, cvR]⟩⟩
    · cases h
  · rename_i fs vs ws hd
    split at h
    · rename_i heq
      simp only [Bool.and_eq_true] at heq
      obtain ⟨⟨heq, hkv⟩, hkw⟩ := heq
      obtain ⟨p, hp, h'⟩ := Option.bind_eq_some_iff.1 h
      clear h; have h := h'; clear h'
      have hE := hT.eq xT ti hti heq
      have run : ∀ (g : GG S) (m : Mem) (ρ : Operand → Value), avR K g m (.agg vs) (ρ x) → avR K g m (.agg ws) (ρ y) → (op = .eql → (execOp ρ o).run P m.w = .ok (.value (.bool (@decide p.1 p.2))) m.w) ∧ (op = .neq → (execOp ρ o).run P m.w = .ok (.value (.bool (!@decide p.1 p.2))) m.w) := by
        intro g m ρ hx hy
        simp only [avR] at hx hy
        obtain ⟨c1, hx, h1⟩ := hx
        obtain ⟨c2, hy, h2⟩ := hy
        have he := hE.eql g m vs ws p c1 c2 m.w hkv hkw hp h1 h2
        constructor
        · rintro rfl; exact run_binAgg ho hx hy hE.guard he
        · rintro rfl; exact run_binAgg ho hx hy hE.guard (run_neqOf he)
      rcases eqOut_ok h with ⟨e, h⟩ | ⟨e, h⟩
      · exact ⟨_, h, fun g m ρ hx hy => ⟨_, (run g m ρ hx hy).1 e, by simp only [boP, cvR]⟩⟩
      · exact ⟨_, h, fun g m ρ hx hy => ⟨_, (run g m ρ hx hy).2 e, by simp only [boN, cvR]⟩⟩
    · cases h
  · cases h
end
end E
end Go.Proofs.Ythhmandpjlggcaa
