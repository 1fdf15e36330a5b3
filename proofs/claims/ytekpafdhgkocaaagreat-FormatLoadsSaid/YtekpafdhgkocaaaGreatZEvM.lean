/- Part of what the laws need: plain words, the walker and its laws, the program's functions. -/
import Derived.Test.YtekpafdhgkocaaaGreatZEvQ
namespace Go.Proofs.YtekpafdhgkocaaaGreat
open Go.RowKit G
namespace E
variable {S : Nat → Type} {tb : Tb S} {K : cV tb} {P : Program} {o : Oper} {xs : List (AV S)} {ob : List (Nat × Nat × AO S)} {ct : Nat} {γ : Type} {k : iH S → Option γ} {r : γ} {tt : TypeId → Option (TI S)} {g : GG S} {m : Mem}
def GG.gg (g : GG S) (i : Nat) (x : Gh) : GG S := { g with bk := fun j => if j = i then some x else g.bk j }
theorem GG.eB {i : Nat} {x : Gh} (h : g.bk i = none) : GE g (g.gg i x) :=
 ⟨fun j y hy => by unfold GG.gg; simp only; by_cases e : j = i
                   · subst e; rw [h] at hy; cases hy
                   · rw [if_neg e]; exact hy, fun _ _ h => h, fun _ _ h => h⟩
theorem GG.bt {i : Nat} {x : Gh} : (g.gg i x).bk i = some x := by simp [GG.gg]
theorem GG.dj {x : Gh} : ∀ i, (g.gg (ct + 1) x).bk i ≠ g.bk i → ct + 1 ≤ i ∧ i < ct + 32 := fun i h => by
 by_cases e : i = ct + 1
 · omega
 · exact absurd (by simp [GG.gg, e]) h
theorem Gn : ∀ {v : CV S}, Oy v = true → ∀ u ∈ pa v, u.oneCell' = true
 | .int _ _, _ | .u8 _, _ | .tt _, _ | .str _, _ | .bI, _ | .dI, _ | .aU, _ | .uG, _ | .ru, _ => by intro u hu; simp [pa] at hu; subst hu; rfl
 | .a8 _ _, _ | .ai _ _ _, _ => by intro u hu; simp [pa] at hu; obtain ⟨_, _, rfl⟩ := hu; rfl
theorem Cz {vs : List (CV S)} (h : vs.all Oy = true) : ∀ u ∈ gv vs, u.oneCell' = true := by
 intro u hu
 unfold gv at hu
 obtain ⟨v, hv, hu⟩ := List.mem_flatMap.1 hu
 exact Gn (List.all_eq_true.1 h v hv) u hu
theorem jz {t : TypeId} {i : TI S} (h : aV P t i) : (zeroOf i).cells.toList = gv i.zero := by
 unfold zeroOf
 split
 · simp [Value.cells]
 · rename_i hA
   have h1 := h.len; rw [h.one hA] at h1
   have h2 := Cz h.JD
   match hz : gv i.zero, h1 with
   | [v], _ =>
     rw [hz] at h2
     have := h2 v (by simp)
     cases v <;> first | rfl | cases this
theorem mF {a : AV S} {vs : List (CV S)} {v : Value} (h : lJ a = some vs) (hv : aA K g m a v) : bq K g m vs v.cells.toList := by
 cases a with
 | one x =>
   simp only [lJ, Option.some.injEq] at h; subst h
   simp only [aA] at hv
   have h1 := Ha hv v (by simp)
   have : v.cells = #[v] := by cases v <;> first | rfl | cases h1
   rw [this]; exact fP hv
 | agg l =>
   simp only [lJ, Option.some.injEq] at h; subst h
   simp only [aA] at hv
   obtain ⟨cs, rfl, h1⟩ := hv
   simpa [Value.cells] using h1
 | je l => cases h
theorem N9 {e : az} {L : List az} (h : Ow m (([] : List az) ++ [e])) : St (ak ([] ++ [e])) m m [e] := by simpa using St.refl h
theorem D8 (hf : rS g ct) {b : Nat} {cs : Array Value} {vs : List (CV S)} {t : TypeId} {m' : Mem} (hle : Le m m') (hS : St [] m m' [.box b cs t]) (hc : bq K g m vs cs.toList) :
 ve K g m ct [] [] { v := .one (.ptr (ct + 1) 0), add := [(ct + 1, .box t vs)] } (.pointer (some ⟨b, 0, none⟩)) m'.w := by
 have hg := GG.eB (x := ⟨some b, none, 0, 0, default⟩) (hf (ct + 1) (by omega) (by omega)).1
 refine ⟨m', g.gg (ct + 1) ⟨some b, none, 0, 0, default⟩, [.box b cs t], rfl, by simpa using hS, hg, rfl, rfl, GG.dj, ⟨_, [], rfl, ⟨_, b, cs.toList, GG.bt, rfl, by simp, hc.mono hg hle⟩, rfl⟩, ?_⟩
 simp only [aA, au]
 exact ⟨_, b, GG.bt, rfl, rfl⟩
theorem HV (hT : cn P K tt) {t : TypeId} (ho : o.op = .alloc t) {ti : TI S} (hti : tt t = some ti) (h : k { v := .one (.ptr (ct + 1) 0), add := [(ct + 1, .box t ti.zero)] } = some r) : cP P K o xs ob ct k r := by
 refine ⟨_, h, by simp, fun g a m Lr Lm hf _ ha hr hm hO => ?_⟩
 simp only [pick, dm] at hr hm
 subst hr; subst hm
 have hty := hT.ty t ti hti
 have hz : (P.info? t).map (·.zero) = some (some (zeroOf ti)) := by
  obtain ⟨inf, h1, h2, _⟩ := info_parts hty.info
  simp [h1, h2]
 exact KC (zeroOf ti) (Ke.nil a) (St.refl (Ow.nil m)) ho hz fun m' b _ hle hS => D8 hf hle (by simpa using hS) (by rw [jz hty]; exact il hty.JD)
theorem MC {t : TypeId} {x : Operand} (ho : o.op = .box t x) {v : AV S} {cs : List (CV S)} (hc : lJ v = some cs) (h : k { v := .one (.ptr (ct + 1) 0), add := [(ct + 1, .box t cs)] } = some r) : cP P K o [v] ob ct k r := by
 refine ⟨_, h, by simp, fun g a m Lr Lm hf _ ha hr hm hO => ?_⟩
 simp only [pick, dm] at hr hm
 subst hr; subst hm
 rw [ho] at ha
 have hv := mF hc (cL ha)
 exact OQ (bQ a [x]) (St.refl (Ow.nil m)) ho (aE a [x] (by simp)) fun m' b _ hle hS => D8 hf hle (by simpa using hS) hv
theorem xq {ti : TI S} {vs : Option (List (CV S))} {one : Option (CV S)} {rd : List Nat} (h : pD ti vs one rd k = some r) : (dS ti.d = true ∧ ∃ l, vs = some l ∧ k { v := .agg l, rd := rd } = some r) ∨ (dS ti.d = false ∧ ∃ v, one = some v ∧ k { v := .one v, rd := rd } = some r) := by
 unfold pD at h
 split at h
 · rename_i hA; obtain ⟨l, h1, h2⟩ := Option.bind_eq_some_iff.1 h; exact .inl ⟨hA, l, h1, h2⟩
 · rename_i hA; obtain ⟨l, h1, h2⟩ := Option.bind_eq_some_iff.1 h; exact .inr ⟨hA, l, h1, h2⟩
def DZ (P : Program) (K : cV tb) (g : GG S) (m : Mem) (o : Oper) (a : Act) (ti : TI S) (off : Nat) (vs : List (CV S)) : Prop :=
 (∀ l, dS ti.d = true → (cutAt off vs).bind (mJ ti.size) = some l → ∃ u, (execOp a.eval o).run P m.w = .ok (.value u) m.w ∧ aA K g m (.agg l) u) ∧
  (∀ v, dS ti.d = false → od off vs = some v → ∃ u, (execOp a.eval o).run P m.w = .ok (.value u) m.w ∧ aA K g m (.one v) u)
theorem Am (hT : cn P K tt) {t : TypeId} {x : Operand} (ho : o.op = .load t x) {ti : TI S} (hti : tt t = some ti) {a : Act} {b p off : Nat} {ecs : List Value} {vs : List (CV S)} (hx : a.eval x = .pointer (some ⟨b, p + off, none⟩)) (hA : ∀ i u, ecs[i]? = some u → m.w.cell? ⟨b, p + i, none⟩ = some u) (hv : bq K g m vs ecs) : DZ P K g m o a ti off vs := by
 have hag := (hT.ty t ti hti).agg
 constructor
 · intro l hA' hl
   obtain ⟨l', hl', hl⟩ := Option.bind_eq_some_iff.1 hl
   obtain ⟨k1, k2⟩ := mH hl' hv
   obtain ⟨k3, k4⟩ := og hl k1
   rw [hA'] at hag
   have hlen : ((ecs.drop off).take ti.size).length = ti.size := by rw [List.length_take]; omega
   refine ⟨.agg ((ecs.drop off).take ti.size).toArray, ?_, by simp only [aA]; exact ⟨_, rfl, k3⟩⟩
   have hrun := zE (P := P) (w := m.w) (b := b) (o := p + off) (cs := (ecs.drop off).take ti.size) (t := t) (by rw [hlen]; exact hag) (fun i u hu => by
    rw [List.getElem?_take] at hu
    split at hu
    · rw [List.getElem?_drop] at hu; rw [Nat.add_assoc]; exact hA _ _ hu
    · cases hu)
   simp [execOp, ho, hx, Instr.loadAt, Instr.sureAddr, hrun]
 · intro v hA' hl
   obtain ⟨u, k1, k2⟩ := su hl hv
   rw [hA'] at hag
   refine ⟨u, ?_, by simp only [aA]; exact k2⟩
   have hrun := uN (P := P) (w := m.w) (b := b) (o := p + off) (t := t) hag (hA off u k1)
   simp [execOp, ho, hx, Instr.loadAt, Instr.sureAddr, hrun]
theorem ir {q ver : Nat} {ao : AO S} {v : CV S} {av : AV S} {x : Operand} (hx : o.op.operands.toList = [x]) (hq : look q ob = some (ver, ao)) (h : k { v := av, rd := [q] } = some r)
 (hrun : ∀ (g : GG S) (a : Act) (m : Mem) (e : az), au K g m v [a.eval x] → g.oo ver = some (ao, e) → lr K g m q ao e → Ow m [e] → ∃ u, (execOp a.eval o).run P m.w = .ok (.value u) m.w ∧ aA K g m av u) : cP P K o [.one v] ob ct k r := by
 refine ⟨_, h, by simp, fun g a m Lr Lm hf _ ha hr hm hO => ?_⟩
 simp only [pick, dm] at hm
 subst hm
 obtain ⟨e, rfl, hoo, hob⟩ := cl hr hq
 rw [hx] at ha
 have hv := cL ha
 simp only [aA] at hv
 have hO' : Ow m [e] := by simpa using hO
 obtain ⟨u, h1, h2⟩ := hrun g a m e hv hoo hob hO'
 exact ab.val h1 (ve.pure rfl hO' h2)
theorem Fi {f : Nat → UInt8} {n : Nat} {i : Int} (h : 0 ≤ i ∧ i < (n : Int)) : ((List.range n).map (fun j => Value.int .u8 ((f j).toNat : Int)))[i.toNat]? = some (.int .u8 ((aD f i).toNat : Int)) := by
 have : i.toNat < n := by omega
 simp [this, aD]
theorem CX {f : Nat → Int} {kk : IntKind} {n : Nat} {i : Int} (h : 0 ≤ i ∧ i < (n : Int)) : ((List.range n).map (fun j => Value.int kk (f j)))[i.toNat]? = some (.int kk (aD f i)) := by
 have : i.toNat < n := by omega
 simp [this, aD]
theorem Kd (hT : cn P K tt) {t : TypeId} {x : Operand} (ho : o.op = .load t x) {v : CV S} (h : zn tb tt t v ob k = some r) : cP P K o [.one v] ob ct k r := by
 have hox : o.op.operands.toList = [x] := by rw [ho]; rfl
 unfold zn at h
 obtain ⟨ti, hti, h'⟩ := Option.bind_eq_some_iff.1 h
 clear h; have h := h'; clear h'
 split at h
 · rename_i q off
   obtain ⟨⟨ver, ao⟩, hq, h'⟩ := Option.bind_eq_some_iff.1 h
   clear h; have h := h'; clear h'
   split at h
   · rename_i T cs hao
     simp only at hao; subst hao
     have key : ∀ (g : GG S) (a : Act) (m : Mem) (e : az), au K g m (.ptr q off) [a.eval x] → g.oo ver = some (.box T cs, e) → lr K g m q (.box T cs) e → Ow m [e] → DZ P K g m o a ti off cs := fun g a m e hv _ hob hO => by
      simp only [au] at hv
      obtain ⟨gh, b, k1, k2, k3⟩ := hv
      obtain ⟨gh', b', us, j1, j2, rfl, j4⟩ := hob
      rw [k1] at j1; have e1 := Option.some.inj j1; subst e1
      rw [k2] at j2; have e2 := Option.some.inj j2; subst e2
      have hx : a.eval x = .pointer (some ⟨b, 0 + off, none⟩) := by rw [Nat.zero_add]; simpa using k3
      exact Am (K := K) (g := g) hT ho hti hx (fun i u hu => by rw [Nat.zero_add, rX (St.refl hO) 0 rfl]; simpa using hu) j4
     rcases xq h with ⟨hA, l, hl, h⟩ | ⟨hA, w, hl, h⟩
     · exact ir hox hq h fun g a m e h1 h2 h3 h4 => (key g a m e h1 h2 h3 h4).1 l hA hl
     · exact ir hox hq h fun g a m e h1 h2 h3 h4 => (key g a m e h1 h2 h3 h4).2 w hA hl
   · cases h
 · rename_i c y off
   have key : ∀ (g : GG S) (a : Act) (m : Mem), au K g m (.el c y off) [a.eval x] → DZ P K g m o a ti off (Jh tb c y) := fun g a m hv => by
    simp only [au] at hv
    obtain ⟨b, p, ecs, k1, k2, k3⟩ := hv
    have hx : a.eval x = .pointer (some ⟨b, p + off, none⟩) := by simpa using k1
    exact Am (K := K) (g := g) hT ho hti hx (fun i u hu => (k3 i u hu).2) (yg k2)
   rcases xq h with ⟨hA, l, hl, h⟩ | ⟨hA, w, hl, h⟩
   · exact ⟨_, h, cY fun g a m ha => by rw [hox] at ha; have := cL ha; simp only [aA] at this; exact (key g a m this).1 l hA hl⟩
   · exact ⟨_, h, cY fun g a m ha => by rw [hox] at ha; have := cL ha; simp only [aA] at this; exact (key g a m this).2 w hA hl⟩
 · rename_i q ver0 c y j off
   obtain ⟨⟨ver, ao⟩, hq, h'⟩ := Option.bind_eq_some_iff.1 h
   clear h; have h := h'; clear h'
   split at h
   · rename_i hver
     have hver := Nat.eq_of_beq_eq_true hver
     simp only at hver; subst hver
     have key : ∀ (g : GG S) (a : Act) (m : Mem) (e : az), au K g m (.CC q ver c y j off) [a.eval x] → g.oo ver = some (ao, e) → lr K g m q ao e → Ow m [e] → DZ P K g m o a ti off (Jh tb c y) := fun g a m e hv hoo hob hO => by
      simp only [au] at hv
      obtain ⟨gh, b, p, e', f, l, en, k1, k2, k3, k4, k5⟩ := hv
      rw [hoo] at k4; cases k4
      obtain ⟨gh', cs, j1, j2, rfl, j4, j5⟩ := hob
      rw [k1] at j1; have e1 := Option.some.inj j1; subst e1
      obtain ⟨jn, rfl, hj⟩ := ox k5
      have hjl : jn < l.length := (List.getElem?_eq_some_iff.1 hj).1
      have hy : l[jn] = y := (List.getElem?_eq_some_iff.1 hj).2
      obtain ⟨b', p', ecs, hg, had, hel⟩ := j4.elem (bj K c).pos hjl
      rw [Int.toNat_natCast, had] at k2
      cases k2
      have hx : a.eval x = .pointer (some ⟨b, p + off, none⟩) := by simpa using k3
      have hrel := hel.rel
      rw [hy] at hrel
      have hS := St.refl hO
      rw [hg] at hS
      have hheap : m.w.heap[b]? = some (.cells cs e' (0, 0)) := by
       have := hO.ok (.arr gh.g cs e') (by simp)
       exact this b hg
      exact Am (K := K) (g := g) hT ho hti hx (fun i u hu => by
       rw [cell_of_row _ _ _ _ _ _ hheap]
       exact hel.get i u hu) (yg hrel)
     rcases xq h with ⟨hA, l, hl, h⟩ | ⟨hA, w, hl, h⟩
     · exact ir hox hq h fun g a m e h1 h2 h3 h4 => (key g a m e h1 h2 h3 h4).1 l hA hl
     · exact ir hox hq h fun g a m e h1 h2 h3 h4 => (key g a m e h1 h2 h3 h4).2 w hA hl
   · cases h
 · rename_i q off n j
   obtain ⟨⟨ver, ao⟩, hq, h'⟩ := Option.bind_eq_some_iff.1 h
   clear h; have h := h'; clear h'
   split at h
   · rename_i T cs hao hA
     simp only at hao; subst hao
     obtain ⟨ds, hds, h'⟩ := Option.bind_eq_some_iff.1 h
     clear h; have h := h'; clear h'
     have hag := (hT.ty t ti hti).agg
     rw [hA] at hag
     have key : ∀ (g : GG S) (a : Act) (m : Mem) (e : az) (w : CV S) (ws : List (CV S)) (u : Value), ds = w :: ws → (∀ cs0 : List Value, au K g m w cs0 → cs0[j.toNat]? = some u) → au K g m (.Hc q off n j) [a.eval x] → lr K g m q (.box T cs) e → Ow m [e] → (execOp a.eval o).run P m.w = .ok (.value u) m.w := fun g a m e w ws u hdw hwu hv hob hO => by
      simp only [au] at hv
      obtain ⟨gh, b, k1, k2, k3, k4⟩ := hv
      obtain ⟨gh', b', us, j1, j2, rfl, j4⟩ := hob
      rw [k1] at j1; have e1 := Option.some.inj j1; subst e1
      rw [k2] at j2; have e2 := Option.some.inj j2; subst e2
      have hx : a.eval x = .pointer (some ⟨b, off + j.toNat, none⟩) := by simpa using k3
      obtain ⟨q1, q2⟩ := mH hds j4
      rw [hdw] at q1
      obtain ⟨c1, c2, he, q3, _⟩ := q1
      have hu := hwu c1 q3
      have hcell : m.w.cell? ⟨b, off + j.toNat, none⟩ = some u := by
       rw [rX (St.refl hO) 0 rfl]
       have : (us.drop off)[j.toNat]? = some u := by
        rw [he, List.getElem?_append_left (List.getElem?_eq_some_iff.1 hu).1]; exact hu
       rw [List.getElem?_drop] at this
       simpa using this
      have hrun := uN (P := P) (w := m.w) (b := b) (o := off + j.toNat) (t := t) hag hcell
      simp [execOp, ho, hx, Instr.loadAt, Instr.sureAddr, hrun]
     have hb : ∀ (g : GG S) (a : Act) (m : Mem), au K g m (.Hc q off n j) [a.eval x] → 0 ≤ j ∧ j < (n : Int) := fun g a m hv => by
      simp only [au] at hv
      obtain ⟨gh, b, k1, k2, k3, k4⟩ := hv
      exact k4
     split at h
     · rename_i n' f ws
       split at h
       · rename_i hn
         have hn := Nat.eq_of_beq_eq_true hn
         subst hn
         exact ir hox hq h fun g a m e h1 h2 h3 h4 => ⟨_, key g a m e _ ws _ rfl (fun cs0 hc => by simp only [au] at hc; rw [hc]; exact Fi (hb g a m h1)) h1 h3 h4, by simp only [aA, au]⟩
       · cases h
     · rename_i n' kk f ws
       split at h
       · rename_i hn
         have hn := Nat.eq_of_beq_eq_true hn
         subst hn
         exact ir hox hq h fun g a m e h1 h2 h3 h4 => ⟨_, key g a m e _ ws _ rfl (fun cs0 hc => by simp only [au] at hc; rw [hc]; exact CX (hb g a m h1)) h1 h3 h4, by simp only [aA, au]⟩
       · cases h
     · cases h
   · cases h
 · cases h
theorem AE {o n : Nat} {xs vs ws : List (CV S)} {cs ds : List Value} (h : Ig o n xs vs = some ws) (hx : bq K g m xs ds) (hv : bq K g m vs cs) : ds.length = n ∧ o + n ≤ cs.length ∧ bq K g m ws (cs.take o ++ ds ++ cs.drop (o + n)) := by
 unfold Ig at h
 split at h
 · rename_i hn
   have hn := Nat.eq_of_beq_eq_true hn
   have hl := D7 hx
   rw [hn] at hl
   split at h
   · rename_i x h1 _
     have h1 := Nat.eq_of_beq_eq_true h1
     have hl1 := hl.trans h1
     obtain ⟨u, rfl⟩ := List.length_eq_one_iff.1 hl1
     obtain ⟨k1, k2⟩ := EA h (jJ hx) hv
     rw [h1]
     refine ⟨rfl, k2, ?_⟩
     rw [← qI _ _ _ k2]; exact k1
   · obtain ⟨k1, k2⟩ := Ko h hx hl hv
     exact ⟨hl, k2, k1⟩
 · cases h
theorem AF : ∀ {o : Nat} {x : CV S} {vs ws vs1 : List (CV S)} {v0 : CV S} {cs : List Value} {i : Nat} {u : Value}, ry o x vs = some ws → cutAt o vs = some (v0 :: vs1) → bq K g m vs cs → i < v0.n → (∀ c1, au K g m v0 c1 → au K g m x (c1.set i u)) → bq K g m ws (cs.set (o + i) u) ∧ o + i < cs.length
 | 0, x, [], _, _, _, _, _, _, h, _, _, _, _ => by simp [ry] at h
 | 0, x, v :: vs, ws, vs1, v0, cs, i, u, h, hc, hv, hi, hx => by
   simp only [ry, Option.some.injEq] at h; subst h
   simp only [cutAt, Option.some.injEq, List.cons.injEq] at hc
   obtain ⟨rfl, rfl⟩ := hc
   obtain ⟨c1, c2, rfl, h1, h2⟩ := hv
   have := h1.len
   refine ⟨⟨c1.set i u, c2, ?_, hx c1 h1, h2⟩, by rw [List.length_append]; omega⟩
   rw [Nat.zero_add, List.set_append_left _ _ (by omega)]
 | o + 1, x, [], _, _, _, _, _, _, h, _, _, _, _ => by simp [ry] at h
 | o + 1, x, v :: vs, ws, vs1, v0, cs, i, u, h, hc, hv, hi, hx => by
   unfold ry at h
   unfold cutAt at hc
   obtain ⟨c1, c2, rfl, h1, h2⟩ := hv
   have hl := h1.len
   split at h
   · rename_i hle
     rw [hle] at hc
     have hle := Nat.le_of_ble_eq_true hle
     obtain ⟨ws', hw, rfl⟩ := Option.map_eq_some_iff.1 h
     obtain ⟨k1, k2⟩ := AF hw hc h2 hi hx
     refine ⟨⟨c1, c2.set (o + 1 - v.n + i) u, ?_, h1, k1⟩, by rw [List.length_append]; omega⟩
     rw [List.set_append_right _ _ (by omega), hl, show o + 1 + i - v.n = o + 1 - v.n + i by omega]
   · cases h
termination_by _ _ vs => vs.length
theorem Fj {f : Nat → UInt8} {n : Nat} {i : Int} {y : UInt8} (h : 0 ≤ i ∧ i < (n : Int)) : ((List.range n).map (fun j => Value.int .u8 ((f j).toNat : Int))).set i.toNat (.int .u8 (y.toNat : Int)) = (List.range n).map (fun j => Value.int .u8 ((ah f i y j).toNat : Int)) := by
 obtain ⟨q, rfl⟩ : ∃ q : Nat, i = (q : Int) := ⟨i.toNat, by omega⟩
 rw [nz n f q y (fun c : UInt8 => Value.int .u8 (c.toNat : Int)) (by omega)]
 simp
theorem CY {f : Nat → Int} {kk : IntKind} {n : Nat} {i : Int} {y : Int} (h : 0 ≤ i ∧ i < (n : Int)) : ((List.range n).map (fun j => Value.int kk (f j))).set i.toNat (.int kk y) = (List.range n).map (fun j => Value.int kk (ah f i y j)) := by
 obtain ⟨q, rfl⟩ : ∃ q : Nat, i = (q : Int) := ⟨i.toNat, by omega⟩
 rw [nz n f q y (fun c : Int => Value.int kk c) (by omega)]
 simp
theorem yX {q b off : Nat} {us : List Value} {T : TypeId} {t : TypeId} {x y : Operand} {cs' : List (CV S)} {gh : Gh} {a : Act} (ho : o.op = .store t x y) (h1 : g.bk q = some gh) (h2 : gh.g = some b) (hO : Ow m [az.box b us.toArray T]) (hx : a.eval x = .pointer (some ⟨b, off, none⟩))
 (hag : (gR P t).map (·.2) = some (a.eval y).cells.size) (hfit : off + (a.eval y).cells.size ≤ us.length) (hone : ∀ u ∈ (a.eval y).cells.toList, u.oneCell' = true)
 (hc : bq K g m cs' (us.take off ++ (a.eval y).cells.toList ++ us.drop (off + (a.eval y).cells.size))) :
 ab P o a m.w fun v w' => ve K g m ct [] [az.box b us.toArray T] { v := AV.iE S, rm := [q], add := [(q, .box T cs')] } v w' := by
 refine EJ (v := a.eval y) (bQ a [x, y]) 0 (St.refl hO) ho (by rw [aE a [x, y] (by simp), hx]) (aE a [x, y] (by simp)) rfl hag (by simpa using hfit) (List.all_eq_true.2 hone) fun m' hle hS => ?_
 have hput : putAt us.toArray off (a.eval y).cells.toList = (us.take off ++ (a.eval y).cells.toList ++ us.drop (off + (a.eval y).cells.size)).toArray := by
  unfold putAt; simp
 rw [hput] at hS
 refine ⟨m', g, [az.box b _ T], rfl, by simpa using hS, GE.refl g, rfl, rfl, fun i h => absurd rfl h, ⟨_, [], rfl, ⟨gh, b, _, h1, h2, rfl, hc.mono (GE.refl g) hle⟩, rfl⟩, by simp [AV.iE, aA, bU, undef]⟩
theorem H5 (hT : cn P K tt) {t : TypeId} {x y : Operand} (ho : o.op = .store t x y) {p : CV S} {av : AV S} (h : u4 tb tt t p av ob k = some r) : cP P K o [.one p, av] ob ct k r := by
 have hox : o.op.operands.toList = [x, y] := by rw [ho]; rfl
 unfold u4 at h
 obtain ⟨ti, hti, h'⟩ := Option.bind_eq_some_iff.1 h
 clear h; have h := h'; clear h'
 obtain ⟨xs, hxs, h'⟩ := Option.bind_eq_some_iff.1 h
 clear h; have h := h'; clear h'
 have hag := (hT.ty t ti hti).agg
 split at h
 · rename_i q off
   obtain ⟨⟨ver, ao⟩, hq, h'⟩ := Option.bind_eq_some_iff.1 h
   clear h; have h := h'; clear h'
   split at h
   · rename_i T cs hao
     simp only at hao; subst hao
     obtain ⟨cs', hcs', h'⟩ := Option.bind_eq_some_iff.1 h
     clear h; have h := h'; clear h'
     refine ⟨_, h, by simp, fun g a m Lr Lm hf _ ha hr hm hO => ?_⟩
     simp only [pick, dm] at hr
     subst hr
     obtain ⟨e, rfl, hoo, gh', b', us, j1, j2, rfl, j4⟩ := cl hm hq
     rw [hox] at ha
     obtain ⟨hv, hw⟩ := cR ha
     simp only [aA, au] at hv
     obtain ⟨gh, b, k1, k2, k3⟩ := hv
     rw [k1] at j1; have e1 := Option.some.inj j1; subst e1
     rw [k2] at j2; have e2 := Option.some.inj j2; subst e2
     have hx : a.eval x = .pointer (some ⟨b, off, none⟩) := by simpa using k3
     have hcl := mF hxs hw
     obtain ⟨q1, q2, q3⟩ := AE hcs' hcl j4
     have q1' : (a.eval y).cells.size = ti.size := by simpa using q1
     exact yX ho k1 k2 (by simpa using hO) hx (by rw [hag, q1']; rfl) (by rw [q1']; exact q2) (sy hcl) (by rw [q1']; exact q3)
   · cases h
 · rename_i q ver0 c z j off
   obtain ⟨⟨ver, ao⟩, hq, h'⟩ := Option.bind_eq_some_iff.1 h
   clear h; have h := h'; clear h'
   split at h
   · rename_i hver
     have hver := Nat.eq_of_beq_eq_true hver
     simp only at hver; subst hver
     split at h
     · rename_i e c' full l hao
       simp only at hao; subst hao
       obtain ⟨cs', hcs', h'⟩ := Option.bind_eq_some_iff.1 h
       clear h; have h := h'; clear h'
       obtain ⟨u', hu', h'⟩ := Option.bind_eq_some_iff.1 h
       clear h; have h := h'; clear h'
       refine ⟨_, h, by simp, fun g a m Lr Lm hf _ ha hr hm hO => ?_⟩
       simp only [pick, dm] at hr
       subst hr
       obtain ⟨en, rfl, hoo, gh', cs, j1, j2, rfl, j4, j5⟩ := cl hm hq
       rw [hox] at ha
       obtain ⟨hv, hw⟩ := cR ha
       simp only [aA, au] at hv
       obtain ⟨gh, b, p, e', f, l', en', k1, k2, k3, k4, k5⟩ := hv
       rw [k1] at j1; have e1 := Option.some.inj j1; subst e1
       rw [hoo] at k4
       have e2 := Option.some.inj k4
       simp only [Prod.mk.injEq] at e2
       obtain ⟨e2, _⟩ := e2
       cases e2
       obtain ⟨jn, rfl, hj⟩ := ox k5
       have hjl : jn < l'.length := (List.getElem?_eq_some_iff.1 hj).1
       have hy : l'[jn] = z := (List.getElem?_eq_some_iff.1 hj).2
       obtain ⟨b', p', ecs, hg, had, hel⟩ := j4.elem (bj K c).pos hjl
       rw [Int.toNat_natCast, had] at k2
       cases k2
       have hx : a.eval x = .pointer (some ⟨b, p + off, none⟩) := by simpa using k3
       have hrel := hel.rel
       rw [hy] at hrel
       have hcl := mF hxs hw
       obtain ⟨q1, q2, q3⟩ := AE hcs' hcl (yg (g := g) hrel)
       have q1' : (a.eval y).cells.size = ti.size := by simpa using q1
       have hr' : ∀ m', Le m m' → RK K c m' u' (ecs.take off ++ (a.eval y).cells.toList ++ ecs.drop (off + (a.eval y).cells.size)) := fun m' hle => by
        rw [q1']; exact oD hu' (q3.mono (GE.refl g) hle)
       have hO' : Ow m [az.arr gh.g cs e] := by simpa using hO
       cases full with
       | false =>
         refine IH (bj K c) hg hel (bQ a [x, y]) 0 (St.refl hO') ho (by rw [aE a [x, y] (by simp), hx]) (aE a [x, y] (by simp)) rfl (by rw [hag, q1']; rfl) (List.all_eq_true.2 (sy hcl)) (by rw [q1', ← hel.len]; simpa using q2) u' hr' fun m' cs2 hle hS hA => ?_
         refine ⟨m', g, [az.arr gh.g cs2 e], rfl, by simpa using hS, GE.refl g, rfl, rfl, fun i h => absurd rfl h, ⟨_, [], rfl, ⟨gh, cs2, k1, by rw [List.length_set]; exact j2, rfl, by rw [Int.toNat_natCast]; exact hA, fun h => by cases h⟩, rfl⟩, by simp [AV.iE, aA, bU, undef]⟩
       | true =>
         obtain ⟨hfa, hF⟩ := j5 rfl
         rw [hfa] at hel
         refine Gf hF (bj K c) hg hel (bQ a [x, y]) 0 (St.refl hO') ho (by rw [aE a [x, y] (by simp), hx]) (aE a [x, y] (by simp)) rfl (by rw [hag, q1']; rfl) (List.all_eq_true.2 (sy hcl)) (by rw [q1', ← hel.len]; simpa using q2) u' hr' fun m' cs2 hle hS hA => ?_
         refine ⟨m', g, [az.arr gh.g cs2 e], rfl, by simpa using hS, GE.refl g, rfl, rfl, fun i h => absurd rfl h, ⟨_, [], rfl, ⟨gh, cs2, k1, by rw [List.length_set]; exact j2, rfl, by rw [Int.toNat_natCast, hfa]; exact hA.1, fun _ => ⟨hfa, by rw [Int.toNat_natCast]; exact hA⟩⟩, rfl⟩, by simp [AV.iE, aA, bU, undef]⟩
     · cases h
   · cases h
 · rename_i q off n j
   obtain ⟨⟨ver, ao⟩, hq, h'⟩ := Option.bind_eq_some_iff.1 h
   clear h; have h := h'; clear h'
   split at h
   · rename_i T cs hao hsz
     simp only at hao; subst hao
     have hsz := Nat.eq_of_beq_eq_true hsz
     obtain ⟨cs1, hcs1, h'⟩ := Option.bind_eq_some_iff.1 h
     clear h; have h := h'; clear h'
     obtain ⟨cs', hcs', h'⟩ := Option.bind_eq_some_iff.1 h
     clear h; have h := h'; clear h'
     refine ⟨_, h, by simp, fun g a m Lr Lm hf _ ha hr hm hO => ?_⟩
     simp only [pick, dm] at hr
     subst hr
     obtain ⟨e, rfl, hoo, gh', b', us, j1, j2, rfl, j4⟩ := cl hm hq
     rw [hox] at ha
     obtain ⟨hv, hw⟩ := cR ha
     simp only [aA, au] at hv
     obtain ⟨gh, b, k1, k2, k3, k4⟩ := hv
     rw [k1] at j1; have e1 := Option.some.inj j1; subst e1
     rw [k2] at j2; have e2 := Option.some.inj j2; subst e2
     have hx : a.eval x = .pointer (some ⟨b, off + j.toNat, none⟩) := by simpa using k3
     have hcl := mF hxs hw
     have fin : ∀ u, (a.eval y).cells.toList = [u] → bq K g m cs' (us.set (off + j.toNat) u) → off + j.toNat < us.length → ab P o a m.w fun v w' => ve K g m ct [] [az.box b us.toArray T] { v := AV.iE S, rm := [q], add := [(q, .box T cs')] } v w' := fun u hu hc hlt => by
      have h1 : (a.eval y).cells.size = 1 := by have := congrArg List.length hu; simpa using this
      exact yX ho k1 k2 (by simpa using hO) hx (by rw [hag, h1, hsz]; rfl) (by rw [h1]; exact hlt) (sy hcl) (by rw [h1, hu, ← qI _ _ _ hlt]; exact hc)
     split at hcs'
     · rename_i n' f ws z
       split at hcs'
       · rename_i hn
         have hn := Nat.eq_of_beq_eq_true hn
         subst hn
         have hu := jJ hcl
         simp only [au] at hu
         obtain ⟨q1, q2⟩ := AF (g := g) (m := m) (K := K) (i := j.toNat) (u := .int .u8 (z.toNat : Int)) hcs' hcs1 j4 (by simp only [CV.n]; omega) (fun c1 hc => by simp only [au] at hc ⊢; rw [hc]; exact Fj k4)
         exact fin _ hu q1 q2
       · cases hcs'
     · rename_i n' kk f ws k' z
       split at hcs'
       · rename_i hk hn _
         have hn := Nat.eq_of_beq_eq_true hn
         subst hn; subst hk
         have hu := jJ hcl
         simp only [au] at hu
         obtain ⟨q1, q2⟩ := AF (g := g) (m := m) (K := K) (i := j.toNat) (u := .int _ z) hcs' hcs1 j4 (by simp only [CV.n]; omega) (fun c1 hc => by simp only [au] at hc ⊢; rw [hc]; exact CY k4)
         exact fin _ hu q1 q2
       · cases hcs'
     · cases hcs'
   · cases h
 · cases h
end E
end Go.Proofs.YtekpafdhgkocaaaGreat
