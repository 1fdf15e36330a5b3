/- Part of what the laws need: plain words, the walker and its laws, the program's functions. -/
import Derived.Test.YtekpafdhgkocaaaGreatZEvP
namespace Go.Proofs.YtekpafdhgkocaaaGreat
open Go.RowKit G
namespace E
variable {S : Nat → Type} {tb : Tb S} {K : cV tb} {P : Program} {o : Oper} {xs : List (AV S)} {ob : List (Nat × Nat × AO S)} {ct : Nat} {γ : Type} {k : iH S → Option γ} {r : γ} {tt : TypeId → Option (TI S)}
theorem cL {g : GG S} {m : Mem} {a : Act} {x : Operand} {v : AV S} (h : lC K g m a [x] [v]) : aA K g m v (a.eval x) := by
 obtain ⟨w, r, e, h1, _⟩ := h; cases e; exact h1
theorem cR {g : GG S} {m : Mem} {a : Act} {x y : Operand} {v w : AV S} (h : lC K g m a [x, y] [v, w]) : aA K g m v (a.eval x) ∧ aA K g m w (a.eval y) := by
 obtain ⟨u, r, e, h1, h2⟩ := h; cases e; exact ⟨h1, cL h2⟩
theorem oB {g : GG S} {m : Mem} {a : Act} {x y z : Operand} {v w u : AV S} (h : lC K g m a [x, y, z] [v, w, u]) : aA K g m v (a.eval x) ∧ aA K g m w (a.eval y) ∧ aA K g m u (a.eval z) := by
 obtain ⟨t, r, e, h1, h2⟩ := h; cases e; exact ⟨h1, cR h2⟩
theorem cY {v : AV S} (h : ∀ g a m, lC K g m a o.op.operands.toList xs → ∃ u, (execOp a.eval o).run P m.w = .ok (.value u) m.w ∧ aA K g m v u) : pR P K o xs ob ct { v := v } :=
 pR.pure rfl rfl rfl fun g a m ha => by obtain ⟨u, h1, h2⟩ := h g a m ha; exact ab.val h1 ⟨rfl, h2⟩
abbrev cP (P : Program) (K : cV tb) (o : Oper) (xs : List (AV S)) (ob : List (Nat × Nat × AO S)) (ct : Nat) (k : iH S → Option γ) (r : γ) : Prop := ∃ res, k res = some r ∧ pR P K o xs ob ct res
theorem Ey {x : Operand} (ho : o.op = .move x ∨ o.op = .assign x) {v : AV S} (h : k { v := v } = some r) : cP P K o [v] ob ct k r :=
 ⟨_, h, cY fun g a m ha => by
  have : o.op.operands.toList = [x] := by rcases ho with ho | ho <;> rw [ho] <;> rfl
  rw [this] at ha
  exact ⟨a.eval x, by rcases ho with ho | ho <;> simp [execOp, ho], cL ha⟩⟩
theorem Mp {c : CV S} {f : Bool → Option γ} (h : Mo c f = some r) : ∃ b, bit c = some b ∧ f b = some r := by
 unfold Mo at h
 split at h
 · exact ⟨_, rfl, h⟩
 · rename_i b p d hbp
   split at h
   · rename_i hp; exact ⟨true, by simp only [bit]; rw [hbp.2 hp], h⟩
   · rename_i hp
     have : b = false := by cases hb : b with | false => rfl | true => exact absurd (hbp.1 hb) hp
     exact ⟨false, by simp only [bit]; rw [this], h⟩
 · cases h
theorem Kg {x y z : Operand} (ho : o.op = .pick x y z) {c : CV S} {v w : AV S} (h : Mo c (fun b => match b with | true => k { v := v } | false => k { v := w }) = some r) : cP P K o [.one c, v, w] ob ct k r := by
 obtain ⟨b, hb, h⟩ := Mp h
 cases b with
 | true => exact ⟨_, h, cY fun g a m ha => by
  rw [ho] at ha
  obtain ⟨h1, h2, h3⟩ := oB ha
  simp only [aA] at h1
  have := vW hb h1
  exact ⟨a.eval y, by simp [execOp, ho, this, asBool], h2⟩⟩
 | false => exact ⟨_, h, cY fun g a m ha => by
  rw [ho] at ha
  obtain ⟨h1, h2, h3⟩ := oB ha
  simp only [aA] at h1
  have := vW hb h1
  exact ⟨a.eval z, by simp [execOp, ho, this, asBool], h3⟩⟩
theorem D1 {g : GG S} {m : Mem} : ∀ {vs : List (AV S)} {l : List Value} {i : Nat} {v : AV S}, bU K g m vs l → vs[i]? = some v → ∃ x, l[i]? = some x ∧ aA K g m v x
 | [], _, _, _, _, h => by simp at h
 | w :: vs, l, i, v, hl, h => by
   simp only [bU] at hl
   obtain ⟨x, r, rfl, h1, h2⟩ := hl
   cases i with
   | zero => simp at h; subst h; exact ⟨x, rfl, h1⟩
   | succ i => simpa using D1 h2 (by simpa using h)
theorem Du {x : Operand} {i : Nat} (ho : o.op = .extract x i) {vs : List (AV S)} (h : (vs[i]?).bind (fun a => k { v := a }) = some r) : cP P K o [.je vs] ob ct k r := by
 obtain ⟨v, hv, h⟩ := Option.bind_eq_some_iff.1 h
 refine ⟨_, h, cY fun g a m ha => ?_⟩
 rw [ho] at ha
 have h1 := cL ha
 simp only [aA] at h1
 obtain ⟨l, h1, h2⟩ := h1
 obtain ⟨u, h3, h4⟩ := D1 h2 hv
 exact ⟨u, by simp [execOp, ho, h1, Instr.extract, h3], h4⟩
theorem B6 {x : Operand} (ho : o.op = .nilCheck x) {v : CV S} (h : (match v with | .ptr _ _ => k (val v) | .fn (.func _) _ _ => k (val v) | .el _ _ _ => k (val v) | .CC _ _ _ _ _ _ => k (val v) | _ => none) = some r) : cP P K o [.one v] ob ct k r := by
 have fin : k (val v) = some r → (∀ g m w, au K g m v [w] → (∃ a, w = .pointer (some a)) ∨ ∃ f x y, w = .func (.func f) x y) → cP P K o [.one v] ob ct k r := fun hk hp =>
  ⟨_, hk, cY fun g a m ha => by
   rw [ho] at ha
   have h1 := cL ha
   simp only [aA] at h1
   refine ⟨a.eval x, ?_, by simp only [aA]; exact h1⟩
   rcases hp g m _ h1 with ⟨ad, e⟩ | ⟨f, y, z, e⟩ <;> simp [execOp, ho, e]⟩
 split at h
 · exact fin h fun g m w hw => by simp only [au] at hw; obtain ⟨gh, b, _, _, e⟩ := hw; exact .inl ⟨_, by simpa using e⟩
 · exact fin h fun g m w hw => by simp only [au] at hw; obtain ⟨v1, v2, e, _⟩ := hw; exact .inr ⟨_, _, _, by simpa using e⟩
 · exact fin h fun g m w hw => by simp only [au] at hw; obtain ⟨b, p, ecs, e, _⟩ := hw; exact .inl ⟨_, by simpa using e⟩
 · exact fin h fun g m w hw => by simp only [au] at hw; obtain ⟨gh, b, p, e', f, l, en, _, _, e, _⟩ := hw; exact .inl ⟨_, by simpa using e⟩
 · cases h
theorem NF {op : UnOp} {v : CV S} (h : ND op v k = some r) : (op = .not ∧ ((∃ b, v = .tt b ∧ k (val (.tt !b)) = some r) ∨ ∃ b p d hb, v = .bo b p d hb ∧ k (val (Jv b)) = some r)) ∨ (op = .not ∧ ∃ e n, v = .na e n ∧ k (val (.na e !n)) = some r) ∨ (op = .neg ∧ ∃ kk x, v = .int kk x ∧ k (val (.int kk (kk.wrap (-x)))) = some r) ∨ (op = .xor ∧ ∃ kk x, v = .int kk x ∧ k (val (.int kk (cp kk (if kk.signed then -1 else kk.max) x))) = some r) := by
 unfold ND at h
 split at h
 · exact .inl ⟨rfl, .inl ⟨_, rfl, h⟩⟩
 · exact .inl ⟨rfl, .inr ⟨_, _, _, _, rfl, h⟩⟩
 · exact .inr (.inl ⟨rfl, _, _, rfl, h⟩)
 · exact .inr (.inr (.inl ⟨rfl, _, _, rfl, h⟩))
 · exact .inr (.inr (.inr ⟨rfl, _, _, rfl, h⟩))
 · cases h
theorem OL {x : Operand} {op : UnOp} {t : TypeId} (ho : o.op = .unOp op t x) {v : CV S} (h : ND op v k = some r) : cP P K o [.one v] ob ct k r := by
 rcases NF h with ⟨rfl, ⟨b, rfl, h⟩ | ⟨b, p, d, hb, rfl, h⟩⟩ | ⟨rfl, e, n, rfl, h⟩ | ⟨rfl, kk, i, rfl, h⟩ | ⟨rfl, kk, i, rfl, h⟩
 · refine ⟨_, h, cY fun g a m ha => ?_⟩
   rw [ho] at ha
   have h1 := cL ha
   simp only [aA, au] at h1
   have h1 : a.eval x = .bool b := by simpa using h1
   exact ⟨.bool !b, by simp [execOp, ho, h1, Op.unary], by simp only [aA, au]⟩
 · refine ⟨_, h, cY fun g a m ha => ?_⟩
   rw [ho] at ha
   have h1 := cL ha
   simp only [aA, au] at h1
   have h1 : a.eval x = .bool b := by simpa using h1
   exact ⟨.bool !b, by simp [execOp, ho, h1, Op.unary], by simp only [aA, Jv, au]⟩
 · refine ⟨_, h, cY fun g a m ha => ?_⟩
   rw [ho] at ha
   have h1 := cL ha
   simp only [aA, au] at h1
   obtain ⟨b, h1, hb⟩ := h1
   have h1 : a.eval x = .bool b := by simpa using h1
   exact ⟨.bool !b, by simp [execOp, ho, h1, Op.unary], by simp only [aA, au]; exact ⟨!b, rfl, fun h2 => hb fun e => h2 (by rw [e])⟩⟩
 · refine ⟨_, h, cY fun g a m ha => ?_⟩
   rw [ho] at ha
   have h1 := cL ha
   simp only [aA, au] at h1
   have h1 : a.eval x = .int kk i := by simpa using h1
   exact ⟨.int kk (kk.wrap (-i)), by simp [execOp, ho, h1, Op.unary, Op.intArith], by simp only [aA, au]⟩
 · refine ⟨_, h, cY fun g a m ha => ?_⟩
   rw [ho] at ha
   have h1 := cL ha
   simp only [aA, au] at h1
   have h1 : a.eval x = .int kk i := by simpa using h1
   exact ⟨.int kk (cp kk (if kk.signed then -1 else kk.max) i), by simp [execOp, ho, h1, Op.unary, Op.intBits, cp], by simp only [aA, au]⟩
theorem MB (hT : cn P K tt) {x y : Operand} {op : BinOp} {t t' : TypeId} (ho : o.op = .binOp op t x y t') {a b : AV S} (h : Fa tt op t y a b (fun v => k (val v)) = some r) : cP P K o [a, b] ob ct k r := by
 have fin : ∀ {v : CV S}, k (val v) = some r → (∀ (g : GG S) (m : Mem) (c : Act), aA K g m a (c.eval x) → aA K g m b (c.eval y) → ∃ u, (execOp c.eval o).run P m.w = .ok (.value u) m.w ∧ au K g m v [u]) → cP P K o [a, b] ob ct k r := fun hk hv =>
  ⟨_, hk, cY fun g c m ha => by
   rw [ho] at ha
   obtain ⟨h1, h2⟩ := cR ha
   obtain ⟨u, h3, h4⟩ := hv g m c h1 h2
   exact ⟨u, h3, by simp only [aA]; exact h4⟩⟩
 unfold Fa at h
 split at h
 · split at h
   · rename_i v w _ _ kv i kw z hn1 hn2
     obtain ⟨u, hu, hv⟩ := J6 (P := P) (K := K) (o := o) ho (fun e => by
      cases v <;> simp only [num] at hn1 <;> try (cases hn1; done)
      · split at hn1
        · cases hn1
        · rename_i hk; cases hn1; exact absurd e hk
      · cases hn1; exact ⟨_, rfl⟩) h
     refine fin hu fun g m c h1 h2 => ?_
     simp only [aA] at h1 h2
     have e1 := (nu hn1 h1).1
     have e2 := (nu hn2 h2).1
     exact hv g m c.eval (fun _ => rfl) e1 e2
   · obtain ⟨u, hu, hv⟩ := He hT ho h
     exact fin hu fun g m c h1 h2 => hv g m c.eval h1 h2
 · obtain ⟨u, hu, hv⟩ := He hT ho h
   exact fin hu fun g m c h1 h2 => hv g m c.eval h1 h2
theorem aV.iE {t : TypeId} {i : TI S} (h : aV P t i) : ∃ d, P.underlying t = some d := by
 have := h.td
 cases hu : P.underlying t with
 | some d => exact ⟨d, rfl⟩
 | none => cases hd : i.d <;> simp [hd, LG, hu, jy] at this
theorem aV.agg {t : TypeId} {i : TI S} (h : aV P t i) : gR P t = some (dS i.d, i.size) := by
 obtain ⟨inf, h1, _, h3, _⟩ := info_parts h.info
 have htd := h.td
 obtain ⟨d, hu⟩ := h.iE
 unfold gR
 rw [hu, h1]
 simp only [h3, Option.some.injEq, Prod.mk.injEq, and_true]
 cases hd : i.d <;> simp only [hd, LG] at htd <;> try (rw [hu] at htd; cases htd; rfl)
 · obtain ⟨fields, hs, _⟩ := tB htd
   rw [hu] at hs; cases hs; rfl
 · rw [hu] at htd; cases d <;> simp [aM] at htd; rfl
 · rw [hu] at htd; simp at htd; rw [htd]; rfl
theorem H0 (hT : cn P K tt) {x : Operand} {t : TypeId} {i : Nat} (ho : o.op = .field t x i) {vs : List (CV S)} {ti fi : TI S} {fs : List (TypeId × Nat × Nat)} {f : TypeId × Nat × Nat} (hti : tt t = some ti) (hd : ti.d = .struct fs) (hf : fs[i]? = some f) (hfi : tt f.1 = some fi)
 (h : (match dS fi.d with
  | true => ((cutAt f.2.1 vs).bind (mJ fi.size)).bind fun l => k { v := .agg l }
  | false => (od f.2.1 vs).bind fun v => k (val v)) = some r) : cP P K o [.agg vs] ob ct k r := by
 have htd := (hT.ty t ti hti).td
 rw [hd] at htd
 obtain ⟨fields, hu, hfs⟩ := tB htd
 obtain ⟨fl, inf, h1, h2, h3, h4, h5⟩ := u9 hfs hf
 have h1 : fields[i]? = some fl := by simpa using h1
 have hag := (hT.ty f.1 fi hfi).agg
 obtain ⟨d', i', hu', hi', hd', hs'⟩ := ik hag
 split at h
 · rename_i hA
   obtain ⟨l, hl, h⟩ := Option.bind_eq_some_iff.1 h
   obtain ⟨l', hl', hl⟩ := Option.bind_eq_some_iff.1 hl
   refine ⟨_, h, cY fun g a m ha => ?_⟩
   rw [ho] at ha
   have hv := cL ha
   simp only [aA] at hv
   obtain ⟨cs, hx, hcs⟩ := hv
   obtain ⟨k1, k2⟩ := mH hl' hcs
   obtain ⟨k3, k4⟩ := og hl k1
   refine ⟨.agg (cs.toArray.extract f.2.1 (f.2.1 + fi.size)), ?_, ?_⟩
   · have hb : (isAgg f.1).run P m.w = .ok true m.w := by rw [kQ hu', hd', hA]
     simp [execOp, ho, hx, Instr.field, run_underlying hu, h1, asAgg, part, h2, h3, hb, sizeOf, typeInfo, hi', hs']
   · simp only [aA]
     refine ⟨(cs.drop f.2.1).take fi.size, ?_, k3⟩
     congr 1
     simp [List.extract_eq_take_drop]
 · rename_i hA
   obtain ⟨v, hv', h⟩ := Option.bind_eq_some_iff.1 h
   refine ⟨_, h, cY fun g a m ha => ?_⟩
   rw [ho] at ha
   have hv := cL ha
   simp only [aA] at hv
   obtain ⟨cs, hx, hcs⟩ := hv
   obtain ⟨u, k1, k2⟩ := su hv' hcs
   refine ⟨u, ?_, by simp only [val, aA]; exact k2⟩
   have hb : (isAgg f.1).run P m.w = .ok false m.w := by rw [kQ hu', hd', hA]
   simp [execOp, ho, hx, Instr.field, run_underlying hu, h1, asAgg, part, h2, h3, hb, k1]
theorem mq (hT : cn P K tt) {x : Operand} {t : TypeId} {i : Nat} (ho : o.op = .fieldAddr t x i) {ti : TI S} {fs : List (TypeId × Nat × Nat)} {f : TypeId × Nat × Nat} (hti : tt t = some ti) (hd : ti.d = .struct fs) (hf : fs[i]? = some f) (h1 : 1 ≤ f.2.2) {a : Act} {w : World} {b q : Nat} (hx : a.eval x = .pointer (some ⟨b, q, none⟩)) :
 (execOp a.eval o).run P w = .ok (.value (.pointer (some ⟨b, q + f.2.1, none⟩))) w := by
 have htd := (hT.ty t ti hti).td
 rw [hd] at htd
 obtain ⟨fields, hu, hfs⟩ := tB htd
 obtain ⟨fl, inf, k1, k2, k3, k4, k5⟩ := u9 hfs hf
 have k1 : fields[i]? = some fl := by simpa using k1
 have hne : ¬ f.2.2 = 0 := by omega
 simp [execOp, ho, hx, Instr.fieldAt, run_underlying hu, k1, Instr.sureAddr, fieldPlace, k2, k3, sizeOf, typeInfo, k4, k5, hne, Addr.add_mid]
theorem Fz {f : TypeId × Nat × Nat} {v : CV S} (h : rp f v k = some r) : 1 ≤ f.2.2 ∧ ((∃ q off, v = .ptr q off ∧ k (val (.ptr q (off + f.2.1))) = some r) ∨ (∃ c x off, v = .el c x off ∧ k (val (.el c x (off + f.2.1))) = some r) ∨ ∃ q u c x j off, v = .CC q u c x j off ∧ k (val (.CC q u c x j (off + f.2.1))) = some r) := by
 unfold rp at h
 split at h
 · rename_i hn; exact ⟨Nat.le_of_ble_eq_true hn, .inl ⟨_, _, rfl, h⟩⟩
 · rename_i hn; exact ⟨Nat.le_of_ble_eq_true hn, .inr (.inl ⟨_, _, _, rfl, h⟩)⟩
 · rename_i hn; exact ⟨Nat.le_of_ble_eq_true hn, .inr (.inr ⟨_, _, _, _, _, _, rfl, h⟩)⟩
 · cases h
theorem Av (hT : cn P K tt) {x : Operand} {t : TypeId} {i : Nat} (ho : o.op = .fieldAddr t x i) {v : CV S} {ti : TI S} {fs : List (TypeId × Nat × Nat)} {f : TypeId × Nat × Nat} (hti : tt t = some ti) (hd : ti.d = .struct fs) (hf : fs[i]? = some f) (h : rp f v k = some r) : cP P K o [.one v] ob ct k r := by
 obtain ⟨h1, ⟨q, off, rfl, hk⟩ | ⟨c, y, off, rfl, hk⟩ | ⟨q, u, c, y, j, off, rfl, hk⟩⟩ := Fz h
 · refine ⟨_, hk, cY fun g a m ha => ?_⟩
   rw [ho] at ha
   have hv := cL ha
   simp only [aA, au] at hv
   obtain ⟨gh, b, k1, k2, k3⟩ := hv
   have hx : a.eval x = .pointer (some ⟨b, off, none⟩) := by simpa using k3
   exact ⟨_, mq hT ho hti hd hf h1 hx, by simp only [aA, au]; exact ⟨gh, b, k1, k2, rfl⟩⟩
 · refine ⟨_, hk, cY fun g a m ha => ?_⟩
   rw [ho] at ha
   have hv := cL ha
   simp only [aA, au] at hv
   obtain ⟨b, p, ecs, k1, k2, k3⟩ := hv
   have hx : a.eval x = .pointer (some ⟨b, p + off, none⟩) := by simpa using k1
   exact ⟨_, mq hT ho hti hd hf h1 hx, by simp only [aA, au]; exact ⟨b, p, ecs, by rw [Nat.add_assoc], k2, k3⟩⟩
 · refine ⟨_, hk, cY fun g a m ha => ?_⟩
   rw [ho] at ha
   have hv := cL ha
   simp only [aA, au] at hv
   obtain ⟨gh, b, p, e, f', l, en, k1, k2, k3, k4, k5⟩ := hv
   have hx : a.eval x = .pointer (some ⟨b, p + off, none⟩) := by simpa using k3
   exact ⟨_, mq hT ho hti hd hf h1 hx, by simp only [aA, au]; exact ⟨gh, b, p, e, f', l, en, k1, k2, by rw [Nat.add_assoc], k4, k5⟩⟩
theorem cl {g : GG S} {m : Mem} {q v : Nat} {ao : AO S} {L : List az} (h : dm K g m (pick ob [q]) L) (hl : look q ob = some (v, ao)) : ∃ e, L = [e] ∧ g.oo v = some (ao, e) ∧ lr K g m q ao e := by
 simp only [pick, hl, dm] at h
 obtain ⟨e, L', rfl, h1, h2, rfl⟩ := h
 exact ⟨e, rfl, h1, h2⟩
theorem sW {x : Operand} {s d : TypeId} (ho : o.op = .convert s d x) {a : Act} {w : World} {ds : TypeDesc} {kd k0 : IntKind} {n : Int} (hs : P.underlying s = some ds) (hd : P.underlying d = some (.int kd)) (hx : a.eval x = .int k0 n) : (execOp a.eval o).run P w = .ok (.value (.int kd (kd.wrap n))) w := by
 simp [execOp, ho, hx, convert, run_underlying hs, run_underlying hd, Conv.intToInt]
theorem J9 (hT : cn P K tt) {x : Operand} {s d : TypeId} (ho : o.op = .convert s d x) {v : CV S} (h : yS tt s d v ob k = some r) : cP P K o [.one v] ob ct k r := by
 unfold yS at h
 obtain ⟨si, hsi, h'⟩ := Option.bind_eq_some_iff.1 h
 clear h; have h := h'; clear h'
 obtain ⟨di, hdi, h'⟩ := Option.bind_eq_some_iff.1 h
 clear h; have h := h'; clear h'
 have hsT := hT.ty s si hsi
 have hdT := (hT.ty d di hdi).td
 obtain ⟨ds, hds⟩ := hsT.iE
 split at h
 · rename_i k0 n kd hd
   rw [hd] at hdT
   refine ⟨_, h, cY fun g a m ha => ?_⟩
   rw [ho] at ha
   have hv := cL ha
   simp only [aA, au] at hv
   have hx : a.eval x = .int k0 n := by simpa using hv
   exact ⟨_, sW ho hds hdT hx, by simp only [val, aA]; exact DS⟩
 · rename_i c hd
   rw [hd] at hdT
   refine ⟨_, h, cY fun g a m ha => ?_⟩
   rw [ho] at ha
   have hv := cL ha
   simp only [aA, au] at hv
   have hx : a.eval x = .int .u8 (c.toNat : Int) := by simpa using hv
   exact ⟨_, sW ho hds hdT hx, by simp only [val, aA, au, Me]⟩
 · rename_i c hd
   rw [hd] at hdT
   refine ⟨_, h, cY fun g a m ha => ?_⟩
   rw [ho] at ha
   have hv := cL ha
   simp only [aA, au] at hv
   have hx : a.eval x = .int .u8 (c.toNat : Int) := by simpa using hv
   exact ⟨_, sW ho hds hdT hx, by simp only [val, aA, au]⟩
 · rename_i c kd hn1 hn2 hd
   rw [hd] at hdT
   refine ⟨_, h, cY fun g a m ha => ?_⟩
   rw [ho] at ha
   have hv := cL ha
   simp only [aA, au] at hv
   have hx : a.eval x = .int .u8 (c.toNat : Int) := by simpa using hv
   have hk : (kd == .i8) = false := by cases kd <;> first | rfl | exact absurd rfl hn2
   exact ⟨_, sW ho hds hdT hx, by simp only [val, aA, au, Ll hk]⟩
 · rename_i l hd
   rw [hd] at hdT
   split at h
   · rename_i hs
     have hs' := hsT.td
     rw [hs] at hs'
     refine ⟨_, h, cY fun g a m ha => ?_⟩
     rw [ho] at ha
     have hv := cL ha
     have hv2 := hv
     simp only [aA, au] at hv
     have hx : a.eval x = .string (Proofs.YtekpafdhgkocaaaGreat.str l) := by simpa using hv
     exact ⟨a.eval x, by simp [execOp, ho, hx, convert, run_underlying (show P.underlying s = some .string from hs'), run_underlying (show P.underlying d = some .string from hdT)], hv2⟩
   · cases h
 · rename_i hne hd
   rw [hd] at hdT
   split at h
   · rename_i e hs hc
     have hs' := hsT.td
     rw [hs] at hs'
     obtain ⟨ei, hei, h'⟩ := Option.bind_eq_some_iff.1 h
     clear h; have h := h'; clear h'
     have heT := (hT.ty e ei hei).td
     split at h
     · rename_i hed
       rw [hed] at heT
       obtain ⟨l, hl, h'⟩ := Option.bind_eq_some_iff.1 h
       clear h; have h := h'; clear h'
       refine ⟨_, h, cY fun g a m ha => ?_⟩
       rw [ho] at ha
       have hv := cL ha
       simp only [aA] at hv
       obtain ⟨ad, n, hx, hE⟩ := jw hl hv
       exact ⟨_, F7 ho hx hs' heT hdT hE, by simp only [val, aA, au]⟩
     · cases h
   · cases h
 · rename_i q c y l e hd
   rw [hd] at hdT
   split at h
   · rename_i hsd
     have hsd := Nat.eq_of_beq_eq_true hsd
     subst hsd
     obtain ⟨ei, hei, h'⟩ := Option.bind_eq_some_iff.1 h
     clear h; have h := h'; clear h'
     obtain ⟨⟨ver, ao⟩, hq, h'⟩ := Option.bind_eq_some_iff.1 h
     clear h; have h := h'; clear h'
     have heT := (hT.ty e ei hei).td
     split at h
     · rename_i e' c' hed hao
       simp only at hao; subst hao
       rw [hed] at heT
       refine ⟨_, h, by simp, fun g a m Lr Lm hf _ ha hr hm hO => ?_⟩
       simp only [pick, dm] at hr
       subst hr
       obtain ⟨en, rfl, hoo, gh', hb', rfl⟩ := cl hm hq
       rw [ho] at ha
       have hv := cL ha
       simp only [aA, au] at hv
       obtain ⟨gh, l0, ad, k1, k2, hEl, k3, k4, k5⟩ := hv
       rw [k1] at hb'; have := Option.some.inj hb'; subst this
       obtain ⟨bb, hbb⟩ : ∃ b, gh.g = some b := by
        cases hg : gh.g with
        | some b => exact ⟨b, rfl⟩
        | none => rw [hg] at k3; exact absurd (cC.sP k3) (by simp)
       have hcap : (l0 ++ y :: l).length ≤ gh.cap := k3.nN.2.2
       obtain ⟨o0, ho0⟩ : ∃ o0, ad = some ⟨bb, o0, none⟩ := by
        rw [k5 (by simp at hcap; omega), hbb]; unfold cW; split
        · exact ⟨0, rfl⟩
        · exact ⟨0 + l0.length * zK K c, by simp only [dW, Option.map_some, Addr.add_mid]⟩
       rw [ho0] at k2 hEl
       have hx : a.eval x = .slice (some ⟨bb, o0, none⟩) (y :: l).length (gh.cap - l0.length) := by simpa using k2
       have hS := St.refl hO
       rw [List.nil_append] at hS
       have hx' : ed (Ht a [x]) x = some (.slice (some ⟨bb, o0, none⟩) (y :: l).length (gh.cap - l0.length)) := by rw [aE a [x] (by simp), hx]
       refine xP (K := Ht a [x]) (B := _) (m0 := m) (L := []) (bQ a _) (by rw [hbb] at hS; exact hS) ho hx' hdT heT fun m' hle hS' => ⟨m', g, [], rfl, ?_, GE.refl g, rfl, rfl, fun i h => absurd rfl h, rfl, ?_⟩
       · rw [hbb]; simpa using hS'
       · simp only [aA, au]
         exact ⟨_, _, rfl, hEl.mono (bj K c) hle⟩
     · cases h
   · cases h
 · cases h
end E
end Go.Proofs.YtekpafdhgkocaaaGreat
