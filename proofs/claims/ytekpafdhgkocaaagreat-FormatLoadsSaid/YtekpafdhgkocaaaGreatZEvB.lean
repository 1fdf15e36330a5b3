/- Part of what the laws need: plain words, the walker and its laws, the program's functions. -/
import Derived.Test.YtekpafdhgkocaaaGreatZEvA
namespace Go.Proofs.YtekpafdhgkocaaaGreat
open Go.RowKit G
namespace E
variable {S : Nat → Type} {tb : Tb S} {K : cV tb} {P : Program} {o : Oper} {xs : List (AV S)} {ob : List (Nat × Nat × AO S)} {ct : Nat} {γ : Type} {k : iH S → Option γ} {r : γ} {tt : TypeId → Option (TI S)} {g : GG S} {m : Mem} {fa : FA S}
theorem Hj (cs vs : Array Value) (off : Nat) (h : off + vs.size ≤ cs.size) : vs.zipIdx.foldl (fun cs (x : Value × Nat) => cs.setIfInBounds (off + x.2) x.1) cs = (cs.toList.take off ++ vs.toList ++ cs.toList.drop (off + vs.size)).toArray := by
 rw [← Array.foldl_toList, Array.toList_zipIdx]
 obtain ⟨h1, h2⟩ := Great.foldl_set off vs.toList 0 cs
 apply Array.ext_getElem?
 intro i
 rw [h2 i]
 have hl : (cs.toList.take off).length = off := by simp; omega
 have hv : vs.toList.length = vs.size := by simp
 rw [List.append_assoc]
 simp only [List.getElem?_toArray, Nat.add_zero, hv, Nat.zero_add]
 by_cases h3 : i < off
 · rw [if_neg (by omega), List.getElem?_append_left (by omega), List.getElem?_take, if_pos h3]; simp
 · rw [List.getElem?_append_right (by omega), hl]
   by_cases h4 : i < off + vs.size
   · rw [if_pos (by omega), List.getElem?_append_left (by omega)]
   · rw [if_neg (by omega), List.getElem?_append_right (by omega), List.getElem?_drop, hv]
     simp only [Array.getElem?_toList]
     rw [show off + vs.size + (i - off - vs.size) = i by omega]
theorem sC (place : Nat → Option (Nat × Nat)) : ∀ {ps : List (Nat × AV S)} {us : List Value} {cs cs' : List (CV S)} {ws : List Value}, gy place cs ps = some cs' → bq K g m cs ws → us.length = ps.length → (∀ (i : Nat) (p : Nat × AV S) (u : Value), ps[i]? = some p → us[i]? = some u → aA K g m p.2 u) →
 ∃ ws', Instr.fill place ws.toArray ((ps.map Prod.fst).zip us) = some ws'.toArray ∧ bq K g m cs' ws'
 | [], us, cs, cs', ws, h, hc, _, _ => by
   simp only [gy, Option.some.injEq] at h; subst h
   exact ⟨ws, by simp [Instr.fill], hc⟩
 | (i, a) :: ps, [], _, _, _, _, _, hl, _ => by simp at hl
 | (i, a) :: ps, u :: us, cs, cs', ws, h, hc, hl, hv => by
   simp only [gy] at h
   obtain ⟨⟨off, size⟩, hp, h⟩ := Option.bind_eq_some_iff.1 h
   obtain ⟨ys, hys, h⟩ := Option.bind_eq_some_iff.1 h
   obtain ⟨cs1, hcs1, h⟩ := Option.bind_eq_some_iff.1 h
   have hcl := mF hys (hv 0 _ _ rfl rfl)
   obtain ⟨q1, q2, q3⟩ := AE hcs1 hcl hc
   have q1' : u.cells.size = size := by simpa using q1
   obtain ⟨ws', k1, k2⟩ := sC place h q3 (by simpa using hl) (fun j p w hp' hw => hv (j + 1) p w (by simpa using hp') (by simpa using hw))
   refine ⟨ws', ?_, k2⟩
   simp only [List.map_cons, List.zip_cons_cons, Instr.fill, hp]
   rw [if_neg (by simp [q1']; omega), Hj _ _ _ (by rw [q1']; simpa using q2)]
   rw [← k1, q1']
theorem tA : ∀ {l : List Field} {fs : List (TypeId × Nat × Nat)}, tz P l = some fs → l.mapM (fun f => (P.info? f.type).map fun i => (f.offset, i.size)) = some (fs.map (·.2))
 | [], fs, h => by simp only [tz, Option.some.injEq] at h; subst h; rfl
 | x :: l, fs, h => by
   unfold tz at h
   split at h
   · rename_i inf r h1 h2
     cases h
     have := tA h2
     simp [List.mapM_cons, h1, this]
   · cases h
theorem HW (hT : cn P K tt) {t : TypeId} {parts : Array (Nat × Operand)} (ho : o.op = .build t parts) {ti : TI S} (hti : tt t = some ti) {cs : List (CV S)} (h : k { v := .agg cs } = some r)
 (hf : (match ti.d with
  | .struct fs => gy (fun i => (fs[i]?).map fun (f : TypeId × Nat × Nat) => f.2) ti.zero ((parts.toList.map Prod.fst).zip xs)
  | .array _ e => (tt e).bind fun ei => gy (fun i => some (i * ei.size, ei.size)) ti.zero ((parts.toList.map Prod.fst).zip xs)
  | _ => none) = some cs) : cP P K o xs ob ct k r := by
 have hox : o.op.operands.toList = parts.toList.map (·.2) := by rw [ho]; simp [Op.operands]
 have hty := hT.ty t ti hti
 have htd := hty.td
 obtain ⟨inf, i1, i2, i3, i4⟩ := info_parts hty.info
 refine ⟨_, h, cY fun g a m ha => ?_⟩
 rw [hox] at ha
 obtain ⟨e1, e2⟩ := ui (ps := parts.toList) ha
 have hzl : ((parts.toList.map Prod.fst).zip xs).length = parts.size := by simp [e1]
 have hmap : ((parts.toList.map Prod.fst).zip xs).map Prod.fst = parts.toList.map Prod.fst := by
  rw [List.map_fst_zip]; simp [e1]
 have hval : ∀ (i : Nat) (p : Nat × AV S) (u : Value), ((parts.toList.map Prod.fst).zip xs)[i]? = some p → (parts.toList.map fun p => a.eval p.2)[i]? = some u → aA K g m p.2 u := fun i p u hp hu => by
  obtain ⟨z1, z2⟩ := AZ i p hp
  rw [List.getElem?_map] at hu
  cases hq : parts.toList[i]? with
  | none => rw [hq] at hu; cases hu
  | some q => rw [hq] at hu; cases hu; exact e2 i q p.2 hq z2
 have hzip : (parts.toList.map Prod.fst).zip (parts.toList.map fun p => a.eval p.2) = (parts.map fun (x : Nat × Operand) => (x.1, a.eval x.2)).toList := by
  rw [Array.toList_map, List.zip_map']
 have fin : ∀ {place : Nat → Option (Nat × Nat)}, gy place ti.zero ((parts.toList.map Prod.fst).zip xs) = some cs → (∀ cells, Instr.fill place (zeroOf ti).cells (parts.map fun (x : Nat × Operand) => (x.1, a.eval x.2)).toList = some cells → P.built t (parts.map fun (x : Nat × Operand) => (x.1, a.eval x.2)).toList = some cells) → ∃ u, (execOp a.eval o).run P m.w = .ok (.value u) m.w ∧ aA K g m (.agg cs) u := fun {place} hf hb => by
  obtain ⟨ws', k1, k2⟩ := sC (K := K) (g := g) (m := m) place (us := parts.toList.map fun p => a.eval p.2) hf (il hty.JD) (by rw [hzl]; simp) hval
  rw [hmap, hzip] at k1
  have hz : (gv ti.zero).toArray = (zeroOf ti).cells := by rw [← jz hty]
  rw [hz] at k1
  have hrun := run_build (P := P) m.w t (parts.map fun (x : Nat × Operand) => (x.1, a.eval x.2)) _ (hb _ k1)
  exact ⟨.agg ws'.toArray, by simp only [execOp, ho, Sem.run_bind, hrun, Result.andThen_ok, Sem.run_pure], by simp only [aA]; exact ⟨ws', rfl, k2⟩⟩
 split at hf
 · rename_i fs hd
   rw [hd] at htd
   obtain ⟨fields, hu, hfs⟩ := tB htd
   refine fin hf fun cells hc => ?_
   simp only [Program.built, i1, hu, i2, tA hfs]
   rw [← hc]
   congr 1
   funext i
   simp
 · rename_i n e hd
   rw [hd] at htd
   obtain ⟨ei, hei, hf'⟩ := Option.bind_eq_some_iff.1 hf
   obtain ⟨inf', j1, j2, j3, j4⟩ := info_parts (hT.ty e ei hei).info
   have hu : P.underlying t = some (.array n e) := htd
   refine fin hf' fun cells hc => ?_
   simp only [Program.built, i1, hu, i2, j1, j3]
   exact hc
 · cases hf
theorem uH {a : Act} : ∀ {l : List Operand} {xs : List (AV S)} {vs : List (CV S)}, oA xs = some vs → lC K g m a l xs → fD K g m vs (l.map a.eval)
 | [], xs, vs, h, ho => by simp only [lC] at ho; subst ho; simp only [oA, Option.some.injEq] at h; subst h; simp only [fD, List.map_nil]
 | x :: l, xs, vs, h, ho => by
   obtain ⟨v, vs', rfl, h1, h2⟩ := ho
   cases v with
   | one w =>
     simp only [oA] at h
     obtain ⟨ws, hw, rfl⟩ := Option.map_eq_some_iff.1 h
     simp only [aA] at h1
     simp only [fD, List.map_cons]
     exact ⟨_, _, rfl, .inl h1, uH hw h2⟩
   | agg us =>
     simp only [oA] at h
     obtain ⟨ws, hw, rfl⟩ := Option.map_eq_some_iff.1 h
     simp only [aA] at h1
     obtain ⟨cs, e1, h1⟩ := h1
     simp only [fD, List.map_cons]
     exact ⟨_, _, rfl, .inr (by simp only [Gt]; exact ⟨cs, e1, sx.2 h1⟩), uH hw h2⟩
   | je _ => cases h
theorem yW : ∀ {vs : List (CV S)} {us : List Value} (n : Nat), fD K g m vs us → fD K g m (vs.take n) (us.take n) ∧ fD K g m (vs.drop n) (us.drop n)
 | [], us, n, h => by simp only [fD] at h; subst h; simp [fD]
 | v :: vs, us, 0, h => by simp only [List.take_zero, List.drop_zero]; exact ⟨by simp only [fD], h⟩
 | v :: vs, us, n + 1, h => by
   simp only [fD] at h
   obtain ⟨u, us', rfl, h1, h2⟩ := h
   obtain ⟨k1, k2⟩ := yW n h2
   simp only [List.take_succ_cons, List.drop_succ_cons, fD]
   exact ⟨⟨u, _, rfl, h1, k1⟩, k2⟩
theorem B4 {f : Fn} {first cap : Array Operand} (ho : o.op = .makeFunc f first cap) {vs : List (CV S)} (hv : oA xs = some vs) (h : k (val (.fn f (vs.take first.size) (vs.drop first.size))) = some r) : cP P K o xs ob ct k r := by
 have hox : o.op.operands.toList = first.toList ++ cap.toList := by rw [ho]; simp [Op.operands]
 refine ⟨_, h, cY fun g a m ha => ?_⟩
 rw [hox] at ha
 have h1 := uH hv ha
 obtain ⟨k1, k2⟩ := yW first.size h1
 have hl : (first.toList.map a.eval).length = first.size := by simp
 rw [List.map_append] at k1 k2
 rw [← hl, List.take_left, hl] at k1
 rw [← hl, List.drop_left, hl] at k2
 refine ⟨.func f (first.map a.eval) (cap.map a.eval), by simp [execOp, ho, Instr.makeFunc], ?_⟩
 simp only [val, aA, au]
 exact ⟨_, _, by rw [← List.map_toArray, ← List.map_toArray], k1, k2⟩
theorem MG {x y : Operand} {ts : Array TypeId} (ho : o.op = .call ⟨.builtin .min, #[x, y], ts⟩) {v w : CV S} {p q : IntKind × Int} (hp : num v = some p) (hq : num w = some q) (h : k (val (CD p.1 (dr p.2 q.2))) = some r) (hk : p.1 = q.1) : cP P K o [.one v, .one w] ob ct k r := by
 have hox : o.op.operands.toList = [x, y] := by rw [ho]; rfl
 refine jo hox h fun g a m hv hw => ?_
 simp only [aA] at hw
 obtain ⟨hx, hx8⟩ := nu (k := p.1) (x := p.2) hp hv
 obtain ⟨hy, hy8⟩ := nu (k := q.1) (x := q.2) hq hw
 refine ab.val (v := .int p.1 (dr p.2 q.2)) ?_ ⟨rfl, ?_⟩
 · simp [execOp, ho, resolve, invoke, builtin, hx, hy, Builtin.min_, Builtin.min2, dr]
 · simp only [val, aA]
   refine xv fun e => ?_
   obtain ⟨c, hc⟩ := hx8 e
   obtain ⟨d, hd⟩ := hy8 (hk ▸ e)
   rw [hc, hd]
   have h1 := c.toNat_lt; have h2 := d.toNat_lt
   rw [lz]
   unfold dr; split <;> omega
theorem MF {x y : Operand} {ts : Array TypeId} (ho : o.op = .call ⟨.builtin .max, #[x, y], ts⟩) {v w : CV S} {p q : IntKind × Int} (hp : num v = some p) (hq : num w = some q) (h : k (val (CD p.1 (imax p.2 q.2))) = some r) (hk : p.1 = q.1) : cP P K o [.one v, .one w] ob ct k r := by
 have hox : o.op.operands.toList = [x, y] := by rw [ho]; rfl
 refine jo hox h fun g a m hv hw => ?_
 simp only [aA] at hw
 obtain ⟨hx, hx8⟩ := nu (k := p.1) (x := p.2) hp hv
 obtain ⟨hy, hy8⟩ := nu (k := q.1) (x := q.2) hq hw
 refine ab.val (v := .int p.1 (imax p.2 q.2)) ?_ ⟨rfl, ?_⟩
 · simp [execOp, ho, resolve, invoke, builtin, hx, hy, Builtin.max_, Builtin.max2, imax]
 · simp only [val, aA]
   refine xv fun e => ?_
   obtain ⟨c, hc⟩ := hx8 e
   obtain ⟨d, hd⟩ := hy8 (hk ▸ e)
   rw [hc, hd]
   have h1 := c.toNat_lt; have h2 := d.toNat_lt
   rw [lz]
   unfold imax; split <;> omega
end E
end Go.Proofs.YtekpafdhgkocaaaGreat
