/- Part of what the laws need: plain words, the walker and its laws, the program's functions. -/
import Derived.Test.YtekpafdhgkocaaaGreatZEvM
namespace Go.Proofs.YtekpafdhgkocaaaGreat
open Go.RowKit G
namespace E
variable {S : Nat → Type} {tb : Tb S} {K : cV tb} {P : Program} {o : Oper} {xs : List (AV S)} {ob : List (Nat × Nat × AO S)} {ct : Nat} {γ : Type} {k : iH S → Option γ} {r : γ} {tt : TypeId → Option (TI S)} {g : GG S} {m : Mem} {fa : FA S}
theorem gX (hT : cn P K tt) {t : TypeId} {ec : TypeId × Co} (h : eW tt t = some ec) : P.underlying t = some (.slice ec.1) ∧ ∃ ei, tt ec.1 = some ei ∧ cq P t ec.1 (zeroOf ei) (zK K ec.2) ei.bytes ∧ 0 < ei.bytes := by
 unfold eW at h
 obtain ⟨i, hi, h⟩ := Option.bind_eq_some_iff.1 h
 split at h
 · rename_i e c hd hc
   cases h
   have htd := (hT.ty t i hi).td
   rw [hd] at htd
   obtain ⟨ei, h1, h2, h3⟩ := hT.el t i e c hi hd hc
   have hety := hT.ty e ei h1
   refine ⟨htd, ei, h1, ⟨htd, by rw [← h2]; exact hety.info, ?_, (bj K c).pos⟩, h3⟩
   rw [← Array.length_toList, jz hety, hety.len, h2]
 · cases h
theorem ld {v : AV S} {i : Int} {u : Value} (h : idxOf v = some i) (hv : aA K g m v u) : ∃ kk, u = .int kk i := by
 unfold idxOf at h
 split at h
 · rename_i w
   obtain ⟨⟨kk, x⟩, h1, h2⟩ := Option.map_eq_some_iff.1 h
   simp only at h2; subst h2
   simp only [aA] at hv
   exact ⟨kk, (nu h1 hv).1⟩
 · cases h
theorem jm {t : TypeId} {x : Operand} {v : CV S} {av : AV S} (hox : o.op.operands.toList = [x]) (h : k { v := av } = some r) (hrun : ∀ (g : GG S) (a : Act) (m : Mem), au K g m v [a.eval x] → ab P o a m.w fun u w' => w' = m.w ∧ aA K g m av u) : cP P K o [.one v] ob ct k r :=
 ⟨_, h, pR.pure rfl rfl rfl fun g a m ha => by rw [hox] at ha; have := cL ha; simp only [aA] at this; exact hrun g a m this⟩
theorem jo {x y : Operand} {v : CV S} {w av : AV S} (hox : o.op.operands.toList = [x, y]) (h : k { v := av } = some r) (hrun : ∀ (g : GG S) (a : Act) (m : Mem), au K g m v [a.eval x] → aA K g m w (a.eval y) → ab P o a m.w fun u w' => w' = m.w ∧ aA K g m av u) : cP P K o [.one v, w] ob ct k r :=
 ⟨_, h, pR.pure rfl rfl rfl fun g a m ha => by rw [hox] at ha; obtain ⟨h1, h2⟩ := cR ha; simp only [aA] at h1; exact hrun g a m h1 h2⟩
theorem Aw (hT : cn P K tt) {t : TypeId} {x y : Operand} (ho : o.op = .indexAddr t x y) {v : CV S} {iv : AV S} {i : Int} (hi : idxOf iv = some i) (h : uw tt t y v i ob k = some r) : cP P K o [.one v, iv] ob ct k r := by
 have hox : o.op.operands.toList = [x, y] := by rw [ho]; rfl
 unfold uw at h
 split at h
 · rename_i q off
   obtain ⟨ti, hti, h'⟩ := Option.bind_eq_some_iff.1 h
   clear h; have h := h'; clear h'
   have htd := (hT.ty t ti hti).td
   split at h
   · rename_i n e hd
     rw [hd] at htd
     obtain ⟨ei, hei, h'⟩ := Option.bind_eq_some_iff.1 h
     clear h; have h := h'; clear h'
     split at h
     · rename_i hsz
       have hsz := Nat.eq_of_beq_eq_true hsz
       have hes : (P.info? e).map (·.size) = some 1 := by
        obtain ⟨inf, h1, _, h3, _⟩ := info_parts (hT.ty e ei hei).info
        simp [h1, h3, hsz]
       split at h
       · rename_i kk j
         split at h
         · rename_i hj
           simp only [Bool.and_eq_true, decide_eq_true_eq] at hj
           refine jo hox h fun g a m hv hw => ?_
           simp only [au] at hv
           obtain ⟨gh, b, k1, k2, k3⟩ := hv
           have hx : a.eval x = .pointer (some ⟨b, off, none⟩) := by simpa using k3
           refine Cg (i := j) (k := kk) htd hes hj (bQ a [x]) ho (by rw [aE a [x] (by simp), hx]) rfl ⟨rfl, ?_⟩
           simp only [val, aA, au]
           exact ⟨gh, b, k1, k2, by rw [Nat.add_comm]⟩
         · cases h
       · obtain ⟨u, hu, h'⟩ := Option.bind_eq_some_iff.1 h
         clear h; have h := h'; clear h'
         have hj := ep hu
         refine jo hox h fun g a m hv hw => ?_
         simp only [au] at hv
         obtain ⟨gh, b, k1, k2, k3⟩ := hv
         have hx : a.eval x = .pointer (some ⟨b, off, none⟩) := by simpa using k3
         obtain ⟨kk, hy⟩ := ld hi hw
         refine Cg (i := i) (k := kk) htd hes hj (bQ a [x, y]) ho (by rw [aE a [x, y] (by simp), hx]) (by rw [aE a [x, y] (by simp), hy]) ⟨rfl, ?_⟩
         simp only [val, aA, au]
         exact ⟨gh, b, k1, k2, by rw [Nat.add_comm], hj⟩
     · cases h
   · cases h
 · obtain ⟨ec, hec, h'⟩ := Option.bind_eq_some_iff.1 h
   clear h; have h := h'; clear h'
   obtain ⟨hu, ei, hei, hE, hb⟩ := gX hT hec
   split at h
   · rename_i q _
     obtain ⟨⟨ver, ao⟩, hq, h'⟩ := Option.bind_eq_some_iff.1 h
     clear h; have h := h'; clear h'
     split at h
     · rename_i e' c' f l hao
       simp only at hao; subst hao
       split at h
       · rename_i hc _
         subst hc
         obtain ⟨z, hz, h'⟩ := Option.bind_eq_some_iff.1 h
         clear h; have h := h'; clear h'
         refine ⟨_, h, by simp, fun g a m Lr Lm hf _ ha hr hm hO => ?_⟩
         simp only [pick, dm] at hm
         subst hm
         obtain ⟨en, rfl, hoo, gh, cs, j1, j2, rfl, j4, j5⟩ := cl hr hq
         rw [hox] at ha
         obtain ⟨hv, hw⟩ := cR ha
         simp only [aA, au] at hv
         obtain ⟨gh', k1, k2⟩ := hv
         rw [j1] at k1; have e1 := Option.some.inj k1; subst e1
         have hx : a.eval x = .slice gh.ad gh.n gh.cap := by simpa using k2
         obtain ⟨kk, hy⟩ := ld hi hw
         obtain ⟨jn, rfl, hj⟩ := ox hz
         have hjl : jn < l.length := (List.getElem?_eq_some_iff.1 hj).1
         obtain ⟨b, p, ecs, hg, hadr, hel⟩ := j4.elem (bj K ec.2).pos hjl
         have hbd : (0 : Int) ≤ (jn : Int) ∧ (jn : Int) < (gh.n : Int) := ⟨by omega, by omega⟩
         refine ab.val (v := .pointer (some ⟨b, p, none⟩)) ?_ (ve.pure rfl (by simpa using hO) ?_)
         · cases had : gh.ad with
           | none => rw [had] at hadr; simp at hadr
           | some A =>
             rw [had] at hadr
             simp only [Option.map_some, Option.some.injEq] at hadr
             simp only [execOp, ho, hx, hy, had, Instr.indexAt, asIntOf, Sem.run_bind, Sem.run_pure, Result.andThen_ok, run_underlying hu, iz hE, hbd, and_self, if_true, Int.toNat_natCast, hadr]
         · simp only [aA, au]
           exact ⟨gh, b, p, e', f, l, _, j1, by rw [Int.toNat_natCast]; exact hadr, by rw [Nat.add_zero], hoo, hz⟩
       · cases h
     · cases h
   · obtain ⟨l, hl, h'⟩ := Option.bind_eq_some_iff.1 h
     clear h; have h := h'; clear h'
     obtain ⟨z, hz, h'⟩ := Option.bind_eq_some_iff.1 h
     clear h; have h := h'; clear h'
     refine jo hox h fun g a m hv hw => ?_
     obtain ⟨ad, n, hx, hEl⟩ := jw hl hv
     obtain ⟨kk, hy⟩ := ld hi hw
     refine OU hE hEl hz (bQ a [x, y]) ho (by rw [aE a [x, y] (by simp), hx]) (by rw [aE a [x, y] (by simp), hy]) fun b p cs hR hA => ⟨rfl, ?_⟩
     simp only [val, aA, au]
     exact ⟨b, p, cs, by rw [Nat.add_zero], hR, hA⟩
theorem hG {x : Option Operand} {vs vs' : List (AV S)} {i : Option Int} {xs : List Operand} {a : Act} (h : nw x vs = some (i, vs')) (ha : lC K g m a (x.toList ++ xs) vs) : lC K g m a xs vs' ∧ (∀ j, i = some j → ∃ y kk, x = some y ∧ a.eval y = .int kk j) ∧ (i = none → x = none) := by
 cases x with
 | none =>
   simp only [nw, Option.some.injEq, Prod.mk.injEq] at h
   obtain ⟨rfl, rfl⟩ := h
   exact ⟨by simpa using ha, fun j h => (by cases h), fun _ => rfl⟩
 | some y =>
   cases vs with
   | nil => simp [nw] at h
   | cons v vs =>
     simp only [nw] at h
     obtain ⟨j, hj, h⟩ := Option.map_eq_some_iff.1 h
     simp only [Prod.mk.injEq] at h
     obtain ⟨rfl, rfl⟩ := h
     simp only [Option.toList_some, List.singleton_append] at ha
     obtain ⟨w, r, e, h1, h2⟩ := ha
     cases e
     obtain ⟨kk, hy⟩ := ld hj h1
     exact ⟨h2, fun j' hj' => by cases hj'; exact ⟨y, kk, rfl, hy⟩, fun h => by cases h⟩
theorem AG {zv : Value} {bytes : Nat} {t e : TypeId} {x y z : Operand} {α : Type} {R : Mem → α → List Value → Prop} {sz cap : Nat} {ad : Option Addr} {l l' : List α} {k k' : IntKind} {i : Int} {Kt' : Kt} {a : Act} {aL : Value → World → Prop} (hT : cq P t e zv sz bytes) (hE : cC R m sz ad cap l) (hx : jg l i = some l') (hK : Ke a Kt') (ho : o.op = .slice t x none (some y) (some z)) (hxx : ed Kt' x = some (.slice ad l.length cap)) (hy : ed Kt' y = some (.int k i)) (hz : ed Kt' z = some (.int k' i))
 (hp : ∀ a', cC R m sz a' l'.length l' → aL (.slice a' l'.length l'.length) m.w) : ab P o a m.w aL := by
 obtain ⟨j, rfl, hj, rfl⟩ := rD hx
 have hlc := hE.nN
 have hb1 : ((0 : Int) ≤ (j : Int) ∧ (j : Int) ≤ (cap : Int)) := ⟨by omega, by omega⟩
 have hcut := hE.JE 0 j j (Nat.zero_le _) hj (Nat.le_refl _) (by omega)
 have hjl : (l.take j).length = j := by rw [List.length_take]; omega
 rw [eU, List.drop_zero, Nat.sub_zero] at hcut
 unfold ab execOp
 have hbj : (Instr.sliceBound (.int k' (j : Int)) cap BoundsCode.slice3Acap).run P m.w = .ok j m.w := cN (by omega)
 have hbj2 : (Instr.sliceBound (.int k (j : Int)) j BoundsCode.slice3B).run P m.w = .ok j m.w := cN (Nat.le_refl _)
 have hadd : (if j = 0 then ad else ad.map (·.add (0 * sz))) = ad := by
  have := eU ad j sz
  unfold cW at this; exact this
 simp only [ho, hK.ev hxx, hK.ev hy, hK.ev hz, Instr.sliceAt, Instr.slice, Instr.sliceBounds, Sem.run_bind, Sem.run_pure, Result.andThen_ok, run_underlying hT.iE, iz hT, Option.map_some, Option.map_none, hbj, hbj2, if_true, Option.isSome_some, Nat.sub_zero, hadd]
 have := hp ad (by rw [hjl]; exact hcut)
 rw [hjl] at this
 exact this
theorem Fm {b : Option Nat} {c i j s : Nat} (hj : i + j < c) : cW (cW (dW b) c i s) (c - i) j s = cW (dW b) c (i + j) s := by
 unfold cW
 by_cases h1 : c = i
 · omega
 · by_cases h2 : c - i = j
   · omega
   · rw [if_neg h1, if_neg h2, if_neg (by omega)]
     cases b with
     | none => rfl
     | some b => simp only [dW, Option.map_some, Addr.add_mid, Nat.zero_add, Nat.add_mul]
theorem ok_slice (hT : cn P K tt) {t : TypeId} {x : Operand} {lo hi mx : Option Operand} (ho : o.op = .slice t x lo hi mx) {v : CV S} {vs va vb vc : List (AV S)} {ilo ihi imx : Option Int} (h1 : nw lo vs = some (ilo, va)) (h2 : nw hi va = some (ihi, vb)) (h3 : nw mx vb = some (imx, vc))
 (h : rE tt t v ilo ihi imx ob ct k = some r) : cP P K o (.one v :: vs) ob ct k r := by
 have hox : o.op.operands.toList = x :: (lo.toList ++ (hi.toList ++ (mx.toList ++ []))) := by rw [ho]; simp [Op.operands]
 have opn : ∀ {g : GG S} {m : Mem} {a : Act}, lC K g m a o.op.operands.toList (.one v :: vs) → au K g m v [a.eval x] ∧ ((∀ j, ilo = some j → ∃ y kk, lo = some y ∧ a.eval y = .int kk j) ∧ (ilo = none → lo = none)) ∧ ((∀ j, ihi = some j → ∃ y kk, hi = some y ∧ a.eval y = .int kk j) ∧ (ihi = none → hi = none)) ∧ ((∀ j, imx = some j → ∃ y kk, mx = some y ∧ a.eval y = .int kk j) ∧ (imx = none → mx = none)) := fun {g m a} ha => by
  rw [hox] at ha
  obtain ⟨w, r, e, k1, k2⟩ := ha
  cases e
  simp only [aA] at k1
  obtain ⟨k3, k4⟩ := hG h1 k2
  obtain ⟨k5, k6⟩ := hG h2 k3
  obtain ⟨k7, k8⟩ := hG h3 k5
  exact ⟨k1, k4, k6, k8⟩
 unfold rE at h
 obtain ⟨ec, hec, h'⟩ := Option.bind_eq_some_iff.1 h
 clear h; have h := h'; clear h'
 obtain ⟨hu, ei, hei, hE, hb⟩ := gX hT hec
 split at h
 · rename_i q
   obtain ⟨⟨ver, ao⟩, hq, h'⟩ := Option.bind_eq_some_iff.1 h
   clear h; have h := h'; clear h'
   split at h
   · rename_i e' c' f l i hao
     simp only at hao; subst hao
     split at h
     · rename_i hc _
       subst hc
       obtain ⟨l', hl', h'⟩ := Option.bind_eq_some_iff.1 h
       clear h; have h := h'; clear h'
       refine ⟨_, h, by simp, fun g a m Lr Lm hf _ ha hr hm hO => ?_⟩
       simp only [pick, dm] at hr
       subst hr
       obtain ⟨en, rfl, hoo, gh, cs, j1, j2, rfl, j4, j5⟩ := cl hm hq
       obtain ⟨hv, ⟨hlo, _⟩, ⟨_, hhi⟩, ⟨_, hmx⟩⟩ := opn ha
       obtain ⟨y, kk, rfl, hy⟩ := hlo _ rfl
       obtain rfl := hhi rfl
       obtain rfl := hmx rfl
       simp only [au] at hv
       obtain ⟨gh', k1, k2⟩ := hv
       rw [j1] at k1; have e1 := Option.some.inj k1; subst e1
       have hx : a.eval x = .slice gh.ad l.length gh.cap := by rw [j2]; simpa using k2
       have hO' : Ow m [az.arr gh.g cs e'] := by simpa using hO
       refine DG hE j4 hl' (bQ a [x, y]) ho (by rw [aE a [x, y] (by simp), hx]) (by rw [aE a [x, y] (by simp), hy]) fun a' c2 hA => ?_
       have hge := GG.eB (x := ⟨gh.g, a', c2, l'.length, default⟩) (hf (ct + 1) (by omega) (by omega)).1
       refine ⟨m, g.gg (ct + 1) ⟨gh.g, a', c2, l'.length, default⟩, [az.arr gh.g cs e'], rfl, by simpa using St.refl hO', hge, rfl, rfl, GG.dj, ⟨_, [], rfl, ⟨_, cs, GG.bt, rfl, rfl, hA, fun h => by cases h⟩, rfl⟩, ?_⟩
       simp only [aA, au]
       exact ⟨_, GG.bt, rfl⟩
     · cases h
   · rename_i e' c' full l j hao
     simp only at hao; subst hao
     split at h
     · rename_i hc _
       subst hc
       obtain ⟨l', hl', h'⟩ := Option.bind_eq_some_iff.1 h
       clear h; have h := h'; clear h'
       refine ⟨_, h, by simp, fun g a m Lr Lm hf _ ha hr hm hO => ?_⟩
       simp only [pick, dm] at hr
       subst hr
       obtain ⟨en, rfl, hoo, gh, cs, j1, j2, rfl, j4, j5⟩ := cl hm hq
       obtain ⟨hv, ⟨_, hlo⟩, ⟨hhi, _⟩, ⟨_, hmx⟩⟩ := opn ha
       obtain ⟨y, kk, rfl, hy⟩ := hhi _ rfl
       obtain rfl := hlo rfl
       obtain rfl := hmx rfl
       simp only [au] at hv
       obtain ⟨gh', k1, k2⟩ := hv
       rw [j1] at k1; have e1 := Option.some.inj k1; subst e1
       have hx : a.eval x = .slice gh.ad l.length gh.cap := by rw [j2]; simpa using k2
       have hO' : Ow m [az.arr gh.g cs e'] := by simpa using hO
       refine IE hE j4 hl' (bQ a [x, y]) ho (by rw [aE a [x, y] (by simp), hx]) (by rw [aE a [x, y] (by simp), hy]) fun hA => ?_
       have hge := GG.eB (x := ⟨gh.g, gh.ad, gh.cap, l'.length, default⟩) (hf (ct + 1) (by omega) (by omega)).1
       refine ⟨m, g.gg (ct + 1) ⟨gh.g, gh.ad, gh.cap, l'.length, default⟩, [az.arr gh.g cs e'], rfl, by simpa using St.refl hO', hge, rfl, rfl, GG.dj, ⟨_, [], rfl, ⟨_, cs, GG.bt, rfl, rfl, hA, fun h => ⟨(j5 h).1, by rw [← (j5 h).1]; exact hA, (j5 h).2.2⟩⟩, rfl⟩, ?_⟩
       simp only [aA, au]
       exact ⟨_, GG.bt, rfl⟩
     · cases h
   · cases h
 · rename_i q c n
   split at h
   · rename_i j
     split at h
     · rename_i hj
       have hj := of_decide_eq_true hj
       subst hj
       refine ⟨_, h, by simp, fun g a m Lr Lm hf _ ha hr hm hO => ?_⟩
       simp only [pick, dm] at hm
       subst hm
       obtain ⟨hv, ⟨_, hlo⟩, ⟨hhi, _⟩, ⟨_, hmx⟩⟩ := opn ha
       obtain ⟨y, kk, rfl, hy⟩ := hhi _ rfl
       obtain rfl := hlo rfl
       obtain rfl := hmx rfl
       simp only [au] at hv
       obtain ⟨gh, b, k1, k2, k3, k4, k5⟩ := hv
       have hx : a.eval x = .slice (dW gh.g) n.toNat gh.cap := by simpa using k3
       refine vt hE (bQ a [x, y]) ho (by rw [aE a [x, y] (by simp), hx]) (by rw [aE a [x, y] (by simp), hy]) ?_
       refine ⟨m, g, [], rfl, by simpa using St.refl hO, GE.refl g, rfl, rfl, fun i h => absurd rfl h, rfl, ?_⟩
       simp only [aA, au]
       exact ⟨gh, [], dW gh.g, k1, rfl, by rw [k2]; exact cC.Hd m k5, by rw [k2]; exact cC.Hd m k5, k4, fun _ => (eU _ _ _).symm⟩
     · cases h
   · cases h
 · split at h
   · rename_i hn
     simp only [Bool.and_eq_true] at hn
     split at h
     · rename_i hj
       have hj := of_decide_eq_true hj
       subst hj
       cases v <;> first | (cases hn.1; done) | skip
       refine ⟨_, h, pR.pure rfl rfl rfl fun g a m ha => ?_⟩
       obtain ⟨hv, ⟨_, hlo⟩, ⟨hhi, _⟩, ⟨_, hmx⟩⟩ := opn ha
       obtain ⟨y, kk, rfl, hy⟩ := hhi _ rfl
       have e1 : ilo = none := by cases ilo <;> cases imx <;> first | rfl | (cases hn.2; done)
       have e2 : imx = none := by cases ilo <;> cases imx <;> first | rfl | (cases hn.2; done)
       obtain rfl := hlo e1
       obtain rfl := hmx e2
       simp only [au] at hv
       have hx : a.eval x = .slice none 0 0 := by simpa using hv
       refine vt hE (bQ a [x, y]) ho (by rw [aE a [x, y] (by simp), hx]) (by rw [aE a [x, y] (by simp), hy]) ⟨rfl, ?_⟩
       simp only [val, aA, au]
     · cases h
   · obtain ⟨l, hl, h'⟩ := Option.bind_eq_some_iff.1 h
     clear h; have h := h'; clear h'
     split at h
     · rename_i i
       obtain ⟨l', hl', h'⟩ := Option.bind_eq_some_iff.1 h
       clear h; have h := h'; clear h'
       have gen : k (val (.sl ec.2 l')) = some r → cP P K o (.one v :: vs) ob ct k r := fun h => by
        refine ⟨_, h, pR.pure rfl rfl rfl fun g a m ha => ?_⟩
        obtain ⟨hv, ⟨hlo, _⟩, ⟨_, hhi⟩, ⟨_, hmx⟩⟩ := opn ha
        obtain ⟨y, kk, rfl, hy⟩ := hlo _ rfl
        obtain rfl := hhi rfl
        obtain rfl := hmx rfl
        obtain ⟨ad, n, hx, hEl⟩ := jw hl hv
        refine Gc hE hEl hl' (bQ a [x, y]) ho (by rw [aE a [x, y] (by simp), hx]) (by rw [aE a [x, y] (by simp), hy]) fun a' c2 hA => ⟨rfl, ?_⟩
        simp only [val, aA, au]
        exact ⟨a', c2, rfl, hA⟩
       unfold Og at h
       split at h
       · rename_i q d l1 _ _
         split at h
         · rename_i hd _
           subst hd
           have e0 : l = l1 := by
            simp only [KL, FT] at hl
            split at hl
            · cases hl; rfl
            · cases hl
           subst e0
           refine ⟨_, h, pR.pure rfl rfl rfl fun g a m ha => ?_⟩
           obtain ⟨hv, ⟨hlo, _⟩, ⟨_, hhi⟩, ⟨_, hmx⟩⟩ := opn ha
           obtain ⟨y, kk, rfl, hy⟩ := hlo _ rfl
           obtain rfl := hhi rfl
           obtain rfl := hmx rfl
           simp only [au] at hv
           obtain ⟨gh, l0, ad, k1, k2, hEl, k3, k4, k5⟩ := hv
           have hx : a.eval x = .slice ad l.length (gh.cap - l0.length) := by simpa using k2
           obtain ⟨j, hij, hj, rfl⟩ := sZ hl'
           have hcap : (l0 ++ l).length ≤ gh.cap := k3.nN.2.2
           refine vr hE hEl j hij (bQ a [x, y]) ho (by rw [aE a [x, y] (by simp), hx]) (by rw [aE a [x, y] (by simp), hy]) hj ⟨rfl, ?_⟩
           simp only [val, aA, au]
           have hl2 : (l0 ++ l.take j).length = l0.length + j := by rw [List.length_append, List.length_take, Nat.min_eq_left hj]
           refine ⟨gh, l0 ++ l.take j, cW ad (gh.cap - l0.length) j (zK K ec.2), k1, ?_, ?_, by rw [List.append_assoc, List.take_append_drop]; exact k3, by rw [List.append_assoc, List.take_append_drop]; exact k4, fun hlt => ?_⟩
           · rw [hl2, Nat.sub_sub]
           · rw [hl2, ← Nat.sub_sub]; exact hEl.from j hj
           · rw [hl2] at hlt ⊢
             rw [k5 (by omega), Fm hlt]
         · exact gen h
       · exact gen h
     · rename_i i
       obtain ⟨l', hl', h'⟩ := Option.bind_eq_some_iff.1 h
       clear h; have h := h'; clear h'
       refine ⟨_, h, pR.pure rfl rfl rfl fun g a m ha => ?_⟩
       obtain ⟨hv, ⟨_, hlo⟩, ⟨hhi, _⟩, ⟨_, hmx⟩⟩ := opn ha
       obtain ⟨y, kk, rfl, hy⟩ := hhi _ rfl
       obtain rfl := hlo rfl
       obtain rfl := hmx rfl
       obtain ⟨ad, n, hx, hEl⟩ := jw hl hv
       refine KF hE hEl hl' (bQ a [x, y]) ho (by rw [aE a [x, y] (by simp), hx]) (by rw [aE a [x, y] (by simp), hy]) fun a' c2 hA => ⟨rfl, ?_⟩
       simp only [val, aA, au]
       exact ⟨a', c2, rfl, hA⟩
     · rename_i i j
       obtain ⟨l', hl', h'⟩ := Option.bind_eq_some_iff.1 h
       clear h; have h := h'; clear h'
       refine ⟨_, h, pR.pure rfl rfl rfl fun g a m ha => ?_⟩
       obtain ⟨hv, ⟨hlo, _⟩, ⟨hhi, _⟩, ⟨_, hmx⟩⟩ := opn ha
       obtain ⟨y, kk, rfl, hy⟩ := hlo _ rfl
       obtain ⟨z, kk', rfl, hz⟩ := hhi _ rfl
       obtain rfl := hmx rfl
       obtain ⟨ad, n, hx, hEl⟩ := jw hl hv
       refine IC hE hEl hl' (bQ a [x, y, z]) ho (by rw [aE a [x, y, z] (by simp), hx]) (by rw [aE a [x, y, z] (by simp), hy]) (by rw [aE a [x, y, z] (by simp), hz]) fun a' c2 hA => ⟨rfl, ?_⟩
       simp only [val, aA, au]
       exact ⟨a', c2, rfl, hA⟩
     · rename_i j mm
       obtain ⟨u, hmj, h'⟩ := Option.bind_eq_some_iff.1 h
       clear h; have h := h'; clear h'
       have hmj := ep hmj
       subst hmj
       obtain ⟨l', hl', h'⟩ := Option.bind_eq_some_iff.1 h
       clear h; have h := h'; clear h'
       refine ⟨_, h, pR.pure rfl rfl rfl fun g a m ha => ?_⟩
       obtain ⟨hv, ⟨_, hlo⟩, ⟨hhi, _⟩, ⟨hmx, _⟩⟩ := opn ha
       obtain ⟨y, kk, rfl, hy⟩ := hhi _ rfl
       obtain ⟨z, kk', rfl, hz⟩ := hmx _ rfl
       obtain rfl := hlo rfl
       obtain ⟨ad, n, hx, hEl⟩ := jw hl hv
       refine AG hE hEl hl' (bQ a [x, y, z]) ho (by rw [aE a [x, y, z] (by simp), hx]) (by rw [aE a [x, y, z] (by simp), hy]) (by rw [aE a [x, y, z] (by simp), hz]) fun a' hA => ⟨rfl, ?_⟩
       simp only [val, aA, au]
       exact ⟨a', rfl, hA⟩
     · cases h
theorem DD {lo hi : Option Value} {w : World} {n : Nat} {i j : Int} (hl : (lo = none ∧ i = 0) ∨ ∃ kk, lo = some (.int kk i)) (hh : (hi = none ∧ j = n) ∨ ∃ kk, hi = some (.int kk j)) (h : 0 ≤ i ∧ i ≤ j ∧ j ≤ (n : Int)) :
 (Instr.sliceBounds false n n lo hi none).run P w = .ok (i.toNat, j.toNat, n) w := by
 obtain ⟨i, rfl⟩ : ∃ z : Nat, i = (z : Int) := ⟨i.toNat, by omega⟩
 obtain ⟨j, rfl⟩ : ∃ z : Nat, j = (z : Int) := ⟨j.toNat, by omega⟩
 have h1 : i ≤ j := by omega
 have h2 : j ≤ n := by omega
 rcases hl with ⟨rfl, hi0⟩ | ⟨kk, rfl⟩
 · have : i = 0 := by omega
   subst this
   rcases hh with ⟨rfl, hj0⟩ | ⟨kk, rfl⟩
   · have : j = n := by omega
     subst this
     simp [Instr.sliceBounds]
   · simp [Instr.sliceBounds, cN h2]
 · rcases hh with ⟨rfl, hj0⟩ | ⟨kk', rfl⟩
   · have : j = n := by omega
     subst this
     simp [Instr.sliceBounds, cN h1]
   · simp [Instr.sliceBounds, cN h1, cN h2]
theorem B7 (hT : cn P K tt) {t : TypeId} {x : Operand} {lo hi mx : Option Operand} (ho : o.op = .slice t x lo hi mx) {q off : Nat} {vs va vb vc : List (AV S)} {ilo ihi imx : Option Int} (h1 : nw lo vs = some (ilo, va)) (h2 : nw hi va = some (ihi, vb)) (h3 : nw mx vb = some (imx, vc))
 (h : pN tt t q off ilo ihi imx k = some r) : cP P K o (.one (.ptr q off) :: vs) ob ct k r := by
 have hox : o.op.operands.toList = x :: (lo.toList ++ (hi.toList ++ (mx.toList ++ []))) := by rw [ho]; simp [Op.operands]
 unfold pN at h
 obtain ⟨ti, hti, h'⟩ := Option.bind_eq_some_iff.1 h
 clear h; have h := h'; clear h'
 have htd := (hT.ty t ti hti).td
 split at h
 · rename_i n e hd
   rw [hd] at htd
   obtain ⟨ei, hei, h'⟩ := Option.bind_eq_some_iff.1 h
   clear h; have h := h'; clear h'
   obtain ⟨inf, g1, g2, g3, g4⟩ := info_parts (hT.ty e ei hei).info
   split at h
   · rename_i hs
     have hs := Nat.eq_of_beq_eq_true hs
     obtain ⟨u, hc, h'⟩ := Option.bind_eq_some_iff.1 h
     clear h; have h := h'; clear h'
     have hc := ep hc
     refine ⟨_, h, pR.pure rfl rfl rfl fun g a m ha => ?_⟩
     rw [hox] at ha
     obtain ⟨w, r, e0, k1, k2⟩ := ha
     cases e0
     simp only [aA, au] at k1
     obtain ⟨k3, k4, k4'⟩ := hG h1 k2
     obtain ⟨k5, k6, k6'⟩ := hG h2 k3
     obtain ⟨_, _, k8⟩ := hG h3 k5
     obtain rfl := k8 rfl
     obtain ⟨gh, b, l1, l2, l3⟩ := k1
     have hx : a.eval x = .pointer (some ⟨b, off, none⟩) := by simpa using l3
     have hb : (Instr.sliceBounds false n n (lo.map a.eval) (hi.map a.eval) none).run P m.w = .ok ((ilo.getD 0).toNat, (ihi.getD n).toNat, n) m.w := by
      refine DD ?_ ?_ ⟨hc.1, hc.2.2.1, hc.2.2.2⟩
      · cases ilo with
        | none => obtain rfl := k4' rfl; exact .inl ⟨rfl, rfl⟩
        | some i => obtain ⟨y, kk, rfl, hy⟩ := k4 _ rfl; exact .inr ⟨kk, by simp [hy]⟩
      · cases ihi with
        | none => obtain rfl := k6' rfl; exact .inl ⟨rfl, rfl⟩
        | some i => obtain ⟨y, kk, rfl, hy⟩ := k6 _ rfl; exact .inr ⟨kk, by simp [hy]⟩
     generalize ilo.getD 0 = i at *
     generalize ihi.getD n = j at *
     have hu : P.underlying t = some (.array n e) := htd
     have hne : ¬ n = i.toNat := by omega
     have hs1 : inf.size = 1 := by rw [g3, hs]
     have hrun : (Instr.sliceAt t (.pointer (some ⟨b, off, none⟩)) (lo.map a.eval) (hi.map a.eval) none).run P m.w = .ok (.slice (some ⟨b, off + i.toNat, none⟩) (j.toNat - i.toNat) (n - i.toNat)) m.w := by
      simp [Instr.sliceAt, run_underlying hu, Instr.sureAddr, hb, sizeOf, typeInfo, g1, hs1, hne, Addr.add_mid]
     refine ab.val (v := .slice (some ⟨b, off + i.toNat, none⟩) (j.toNat - i.toNat) (n - i.toNat)) ?_ ⟨rfl, ?_⟩
     · simp [execOp, ho, hx, hrun]
     · simp only [val, aA, au]
       exact ⟨gh, b, l1, l2, by rw [show (j - i).toNat = j.toNat - i.toNat by omega], hc.1, hc.2.2.1, hc.2.2.2⟩
   · cases h
 · cases h
theorem FY (hT : cn P K tt) {t : TypeId} {x : Operand} {lo hi mx : Option Operand} (ho : o.op = .slice t x lo hi mx) {q off : Nat} {vs va vb vc : List (AV S)} {ilo ihi imx : Option Int} (h1 : nw lo vs = some (ilo, va)) (h2 : nw hi va = some (ihi, vb)) (h3 : nw mx vb = some (imx, vc))
 (h : pM tt t q off ilo ihi imx ob k = some r) : cP P K o (.one (.ptr q off) :: vs) ob ct k r := by
 have hox : o.op.operands.toList = x :: (lo.toList ++ (hi.toList ++ (mx.toList ++ []))) := by rw [ho]; simp [Op.operands]
 unfold pM at h
 obtain ⟨ti, hti, h'⟩ := Option.bind_eq_some_iff.1 h
 clear h; have h := h'; clear h'
 have htd := (hT.ty t ti hti).td
 split at h
 · rename_i n e hd
   rw [hd] at htd
   obtain ⟨ei, hei, h'⟩ := Option.bind_eq_some_iff.1 h
   clear h; have h := h'; clear h'
   obtain ⟨⟨ver, ao⟩, hq, h'⟩ := Option.bind_eq_some_iff.1 h
   clear h; have h := h'; clear h'
   obtain ⟨inf, g1, g2, g3, g4⟩ := info_parts (hT.ty e ei hei).info
   split at h
   · rename_i T n1 f hao
     simp only at hao; subst hao
     split at h
     · rename_i hc
       simp only [Bool.and_eq_true] at hc
       obtain ⟨hn, hs, hn1, hn2⟩ := hc
       have hn := Nat.eq_of_beq_eq_true hn
       subst hn
       have hs := Nat.eq_of_beq_eq_true hs
       have hn1 := Nat.le_of_ble_eq_true hn1
       have hn2 := Nat.le_of_ble_eq_true hn2
       refine ⟨_, h, by simp, fun g a m Lr Lm hf _ ha hr hm hO => ?_⟩
       simp only [pick, dm] at hr
       subst hr
       obtain ⟨en, rfl, hoo, gh', b', us, j1, j2, rfl, j4⟩ := cl hm hq
       rw [hox] at ha
       obtain ⟨w, r, e0, k1, k2⟩ := ha
       cases e0
       simp only [aA, au] at k1
       obtain ⟨k3, k4, k4'⟩ := hG h1 k2
       obtain ⟨k5, k6, k6'⟩ := hG h2 k3
       obtain ⟨_, _, k8⟩ := hG h3 k5
       obtain rfl := k8 rfl
       obtain rfl := k6' rfl
       obtain rfl := k4' rfl
       obtain ⟨gh, b, l1, l2, l3⟩ := k1
       rw [l1] at j1; have e1 := Option.some.inj j1; subst e1
       rw [l2] at j2; have e2 := Option.some.inj j2; subst e2
       have hx : a.eval x = .pointer (some ⟨b, 0, none⟩) := by simpa using l3
       have hcs := jJ j4
       simp only [au] at hcs
       have hb : (Instr.sliceBounds false n1 n1 none none none).run P m.w = .ok (0, n1, n1) m.w := by simp [Instr.sliceBounds]
       have hu : P.underlying t = some (.array n1 e) := htd
       have hne : ¬ n1 = 0 := by omega
       have hs1 : inf.size = 1 := by rw [g3, hs]
       have hrun : (Instr.sliceAt t (.pointer (some ⟨b, 0, none⟩)) none none none).run P m.w = .ok (.slice (some ⟨b, 0, none⟩) n1 n1) m.w := by
        simp [Instr.sliceAt, run_underlying hu, Instr.sureAddr, hb, sizeOf, typeInfo, g1, hs1, hne, Addr.add_mid]
       have hS : St (ak [az.box b us.toArray T]) m m [az.box b us.toArray T] := St.refl (by simpa using hO)
       have hlen : (gb (α := UInt8) n1 f).length = n1 := by simp [gb]
       have hA : eh nM m 1 (some b) us.toArray (some ⟨b, 0, none⟩) n1 (gb n1 f) := eh.ofBytes (by rw [hlen]; exact Nat.le_refl _) (by unfold maxLen; omega) fun z u hz => by
        have hzl : z < n1 := by rw [← hlen]; exact (List.getElem?_eq_some_iff.1 hz).1
        unfold gb at hz
        rw [List.getElem?_map, List.getElem?_range hzl] at hz
        cases hz
        rw [Nat.zero_add, List.getElem?_toArray, hcs, List.getElem?_map, List.getElem?_range hzl]; rfl
       obtain ⟨m', r1, r2, r3, r4⟩ := St.ze DB hS.toArr hA
       have hst : (execOp a.eval o).run P m.w = .ok (.value (.slice (some ⟨b, 0, none⟩) n1 n1)) m.w := by simp [execOp, ho, hx, hrun]
       refine ab.val (v := .slice (some ⟨b, 0, none⟩) n1 n1) hst ?_
       refine ⟨m', g, [], r1, by simpa using r3, GE.refl g, rfl, rfl, fun i h => absurd rfl h, rfl, ?_⟩
       simp only [aA, au]
       exact ⟨_, _, by exact congrArg (fun z => [Value.slice (some ⟨b, 0, none⟩) z n1]) hlen.symm, r4⟩
     · cases h
   · cases h
 · cases h
theorem Gb {a : Act} {Kt_ : Kt} {t e : TypeId} {zv : Value} {sz bytes cap n : Nat} {ad : Option Addr} {x y z : Operand} {k1 k2 : IntKind} {i j : Int} {m : Mem} {aL : Value → World → Prop} (hT : cq P t e zv sz bytes) (hi : 0 ≤ i ∧ i ≤ j ∧ j ≤ (n : Int)) (hc : n ≤ cap) (hK : Ke a Kt_) (ho : o.op = .slice t x (some y) (some z) none)
 (hxx : ed Kt_ x = some (.slice ad n cap)) (hy : ed Kt_ y = some (.int k1 i)) (hz : ed Kt_ z = some (.int k2 j)) (hp : aL (.slice (cW ad cap i.toNat sz) (j.toNat - i.toNat) (cap - i.toNat)) m.w) : ab P o a m.w aL := by
 obtain ⟨i, rfl⟩ : ∃ q : Nat, i = (q : Int) := ⟨i.toNat, by omega⟩
 obtain ⟨j, rfl⟩ : ∃ q : Nat, j = (q : Int) := ⟨j.toNat, by omega⟩
 have h1 : j ≤ cap := by omega
 have h2 : i ≤ j := by omega
 have := iw (P := P) (w := m.w) hT ad n cap i j (some (.int k1 i)) (some (.int k2 j)) (by simp [Instr.sliceBounds, cN h1, cN h2])
 unfold ab execOp
 simp only [ho, Option.map_some, Option.map_none, hK.ev hxx, hK.ev hy, hK.ev hz, Sem.run_bind, this, Result.andThen_ok, Sem.run_pure]
 exact hp
theorem Kf (hT : cn P K tt) {t : TypeId} {x : Operand} {lo hi mx : Option Operand} (ho : o.op = .slice t x lo hi mx) {v : CV S} {vs va vb vc : List (AV S)} {ilo ihi imx : Option Int} (h1 : nw lo vs = some (ilo, va)) (h2 : nw hi va = some (ihi, vb)) (h3 : nw mx vb = some (imx, vc))
 (h : zA tt t v ilo ihi imx ob ct k = some r) : cP P K o (.one v :: vs) ob ct k r := by
 have hox : o.op.operands.toList = x :: (lo.toList ++ (hi.toList ++ (mx.toList ++ []))) := by rw [ho]; simp [Op.operands]
 have opn : ∀ {g : GG S} {m : Mem} {a : Act}, lC K g m a o.op.operands.toList (.one v :: vs) → au K g m v [a.eval x] ∧ ((∀ j, ilo = some j → ∃ y kk, lo = some y ∧ a.eval y = .int kk j) ∧ (ilo = none → lo = none)) ∧ ((∀ j, ihi = some j → ∃ y kk, hi = some y ∧ a.eval y = .int kk j) ∧ (ihi = none → hi = none)) ∧ ((∀ j, imx = some j → ∃ y kk, mx = some y ∧ a.eval y = .int kk j) ∧ (imx = none → mx = none)) := fun {g m a} ha => by
  rw [hox] at ha
  obtain ⟨w, r, e, k1, k2⟩ := ha
  cases e
  simp only [aA] at k1
  obtain ⟨k3, k4⟩ := hG h1 k2
  obtain ⟨k5, k6⟩ := hG h2 k3
  obtain ⟨k7, k8⟩ := hG h3 k5
  exact ⟨k1, k4, k6, k8⟩
 unfold zA at h
 split at h
 · rename_i q
   obtain ⟨ec, hec, h'⟩ := Option.bind_eq_some_iff.1 h
   clear h; have h := h'; clear h'
   obtain ⟨hu, ei, hei, hE, hb⟩ := gX hT hec
   obtain ⟨⟨ver, ao⟩, hq, h'⟩ := Option.bind_eq_some_iff.1 h
   clear h; have h := h'; clear h'
   split at h
   · rename_i e' c' f l i hao
     simp only at hao; subst hao
     split at h
     · rename_i hc _
       subst hc
       obtain ⟨u, hcc, h'⟩ := Option.bind_eq_some_iff.1 h
       clear h; have h := h'; clear h'
       have hcc := ep hcc
       refine ⟨_, h, by simp, fun g a m Lr Lm hf _ ha hr hm hO => ?_⟩
       simp only [pick, dm] at hm
       subst hm
       obtain ⟨en, rfl, hoo, gh, cs, j1, j2, rfl, j4, j5⟩ := cl hr hq
       obtain ⟨hv, ⟨hlo, _⟩, ⟨_, hhi⟩, ⟨_, hmx⟩⟩ := opn ha
       obtain ⟨y, kk, rfl, hy⟩ := hlo _ rfl
       obtain rfl := hhi rfl
       obtain rfl := hmx rfl
       simp only [au] at hv
       obtain ⟨gh', k1, k2⟩ := hv
       rw [j1] at k1; have e1 := Option.some.inj k1; subst e1
       have hx : a.eval x = .slice gh.ad gh.n gh.cap := by simpa using k2
       have hn := j4.nN.2.2
       have hi2 : 0 ≤ i ∧ i ≤ (gh.n : Int) := by omega
       have hn2 : gh.n ≤ gh.cap := by omega
       refine Gd (ad := gh.ad) (cap := gh.cap) (n := gh.n) (i := i) (k := kk) hE hi2 hn2 (bQ a [x, y]) ho (by rw [aE a [x, y] (by simp), hx]) (by rw [aE a [x, y] (by simp), hy]) ?_
       refine ⟨m, g, [], rfl, by simpa using St.refl hO, GE.refl g, rfl, rfl, fun i h => absurd rfl h, rfl, ?_⟩
       simp only [aA, au]
       refine ⟨gh, j1, ?_, by omega, by omega, by omega⟩
       rw [show ((l.length : Int) - i).toNat = gh.n - i.toNat by omega]
     · cases h
   · rename_i e' c' f l i j hao
     simp only at hao; subst hao
     split at h
     · rename_i hc _
       subst hc
       obtain ⟨u, hcc, h'⟩ := Option.bind_eq_some_iff.1 h
       clear h; have h := h'; clear h'
       have hcc := ep hcc
       refine ⟨_, h, by simp, fun g a m Lr Lm hf _ ha hr hm hO => ?_⟩
       simp only [pick, dm] at hm
       subst hm
       obtain ⟨en, rfl, hoo, gh, cs, j1, j2, rfl, j4, j5⟩ := cl hr hq
       obtain ⟨hv, ⟨hlo, _⟩, ⟨hhi, _⟩, ⟨_, hmx⟩⟩ := opn ha
       obtain ⟨y, kk, rfl, hy⟩ := hlo _ rfl
       obtain ⟨z, kk', rfl, hz⟩ := hhi _ rfl
       obtain rfl := hmx rfl
       simp only [au] at hv
       obtain ⟨gh', k1, k2⟩ := hv
       rw [j1] at k1; have e1 := Option.some.inj k1; subst e1
       have hx : a.eval x = .slice gh.ad gh.n gh.cap := by simpa using k2
       have hn := j4.nN.2.2
       have hi2 : 0 ≤ i ∧ i ≤ j ∧ j ≤ (gh.n : Int) := by omega
       have hn2 : gh.n ≤ gh.cap := by omega
       refine Gb (ad := gh.ad) (cap := gh.cap) (n := gh.n) (i := i) (j := j) hE hi2 hn2 (bQ a [x, y, z]) ho (by rw [aE a [x, y, z] (by simp), hx]) (by rw [aE a [x, y, z] (by simp), hy]) (by rw [aE a [x, y, z] (by simp), hz]) ?_
       refine ⟨m, g, [], rfl, by simpa using St.refl hO, GE.refl g, rfl, rfl, fun i h => absurd rfl h, rfl, ?_⟩
       simp only [aA, au]
       refine ⟨gh, j1, ?_, by omega, by omega, by omega⟩
       rw [show (j - i).toNat = j.toNat - i.toNat by omega]
     · cases h
   · cases h
 · exact ok_slice hT ho h1 h2 h3 h
theorem KN {q : Nat} {s : CV S} {l x : List UInt8} (h : MU q s l = some x) : (∃ off n, s = .pt q .u8 off n ∧ x = (l.drop off.toNat).take n.toNat) ∨ KL .u8 s = some x := by
 cases s with
 | pt o' c off n =>
   left
   unfold MU at h
   simp only at h
   split at h
   · rename_i hc hq _
     obtain rfl := Nat.eq_of_beq_eq_true hq
     subst hc
     exact ⟨off, n, rfl, (Option.some.inj h).symm⟩
   · cases h
 | _ => exact .inr h
theorem xI : ∀ {o : Nat} {x : CV S} {vs ws vs1 : List (CV S)} {v0 : CV S} {cs : List Value}, ry o x vs = some ws → cutAt o vs = some (v0 :: vs1) → bq K g m vs cs → ∃ pre c1 post, cs = pre ++ c1 ++ post ∧ pre.length = o ∧ au K g m v0 c1 ∧ ∀ (g' : GG S) (m' : Mem), GE g g' → Le m m' → ∀ c2, au K g' m' x c2 → bq K g' m' ws (pre ++ c2 ++ post)
 | 0, x, [], _, _, _, _, h, _, _ => by simp [ry] at h
 | 0, x, v :: vs, ws, vs1, v0, cs, h, hc, hv => by
   simp only [ry, Option.some.injEq] at h; subst h
   simp only [cutAt, Option.some.injEq, List.cons.injEq] at hc
   obtain ⟨rfl, rfl⟩ := hc
   obtain ⟨c1, c2, rfl, h1, h2⟩ := hv
   exact ⟨[], c1, c2, by simp, rfl, h1, fun g' m' hg hm c3 h3 => ⟨c3, c2, by simp, h3, h2.mono hg hm⟩⟩
 | o + 1, x, [], _, _, _, _, h, _, _ => by simp [ry] at h
 | o + 1, x, v :: vs, ws, vs1, v0, cs, h, hc, hv => by
   unfold ry at h
   unfold cutAt at hc
   obtain ⟨c1, c2, rfl, h1, h2⟩ := hv
   have hl := h1.len
   split at h
   · rename_i hle
     rw [hle] at hc
     have hle := Nat.le_of_ble_eq_true hle
     obtain ⟨ws', hw, rfl⟩ := Option.map_eq_some_iff.1 h
     obtain ⟨pre, c3, post, rfl, k2, k3, k4⟩ := xI hw hc h2
     refine ⟨c1 ++ pre, c3, post, by simp, by rw [List.length_append]; omega, k3, fun g' m' hg hm c4 h4 => ⟨c1, pre ++ c4 ++ post, by simp, h1.mono hg hm, k4 g' m' hg hm c4 h4⟩⟩
   · cases h
termination_by _ _ vs => vs.length
theorem wU {pre post : List Value} {n : Nat} {h : Nat → Value} (q : Nat) : (pre ++ (List.range n).map h ++ post)[q]? = if q < pre.length then pre[q]? else if q < pre.length + n then some (h (q - pre.length)) else post[q - pre.length - n]? := by
 by_cases h1 : q < pre.length
 · rw [if_pos h1, List.append_assoc, List.getElem?_append_left h1]
 · rw [if_neg h1]
   by_cases h2 : q < pre.length + n
   · rw [if_pos h2, List.getElem?_append_left (by rw [List.length_append, List.length_map, List.length_range]; exact h2), List.getElem?_append_right (by omega), List.getElem?_map, List.getElem?_range (by omega)]; rfl
   · rw [if_neg h2, List.getElem?_append_right (by rw [List.length_append, List.length_map, List.length_range]; omega), List.length_append, List.length_map, List.length_range, Nat.sub_sub]
theorem QD {x y : Operand} {a : Act} {Kt_ : Kt} {m : Mem} {aL : Value → World → Prop} {t t2 e : TypeId} {zv : Value} {bytes b n i j i2 j2 c c2 : Nat} {T : TypeId} {pre post : List Value} {kk : IntKind} {f : Nat → Int} (hT : cq P t e zv 1 bytes) (hK : Ke a Kt_)
 (hO : Ow m [az.box b (pre ++ (List.range n).map (fun q => Value.int kk (f q)) ++ post).toArray T]) (hij : i ≤ j ∧ j ≤ n) (hij2 : i2 ≤ j2 ∧ j2 ≤ n)
 (ho : o.op = .call ⟨.builtin .copy, #[x, y], #[t, t2]⟩) (hx : ed Kt_ x = some (.slice (some ⟨b, pre.length + i, none⟩) (j - i) c)) (hy : ed Kt_ y = some (.slice (some ⟨b, pre.length + i2, none⟩) (j2 - i2) c2))
 (hp : ∀ m', Le m m' → St (ak [az.box b (pre ++ (List.range n).map (fun q => Value.int kk (f q)) ++ post).toArray T]) m m' [az.box b (pre ++ (List.range n).map (fun q => Value.int kk (nG f i i2 (Nat.min (j2 - i2) (j - i)) q)) ++ post).toArray T] → aL (.int .i64 ((Nat.min (j2 - i2) (j - i) : Nat) : Int)) m'.w) : ab P o a m.w aL := by
 generalize hus : (pre ++ (List.range n).map (fun q => Value.int kk (f q)) ++ post) = us at *
 have hsz : us.length = pre.length + n + post.length := by rw [← hus]; simp; omega
 generalize hcnt : Nat.min (j2 - i2) (j - i) = cnt at *
 have hc1 : cnt ≤ j2 - i2 := by rw [← hcnt]; exact Nat.min_le_left _ _
 have hc2 : cnt ≤ j - i := by rw [← hcnt]; exact Nat.min_le_right _ _
 generalize hxs : (List.range cnt).map (fun q => Value.int kk (f (i2 + q))) = xs
 have hlen : xs.length = cnt := by rw [← hxs]; simp
 have hcell : ∀ k, m.w.cell? ⟨b, k, none⟩ = us[k]? := fun k => by
  rw [rX (St.refl hO) 0 rfl]; simp
 have hf : (Builtin.firstCells 1 cnt (.slice (some ⟨b, pre.length + i2, none⟩) (j2 - i2) c2)).run P m.w = .ok xs.toArray m.w := by
  refine run_firstCells_some (P := P) m.w 1 cnt ⟨b, pre.length + i2, none⟩ (j2 - i2) c2 xs (by rw [hlen, Nat.mul_one]) (fun q u hu => ?_)
  rw [Addr.add_mid, hcell, ← hus, wU]
  have hq : q < cnt := by rw [← hlen]; exact (List.getElem?_eq_some_iff.1 hu).1
  rw [if_neg (by omega), if_pos (by omega)]
  rw [← hxs, List.getElem?_map, List.getElem?_range hq] at hu
  rw [← hu, show pre.length + i2 + q - pre.length = i2 + q by omega]; rfl
 have hS0 := St.refl hO
 have hb := hS0.wK 0 rfl
 have hst := run_storeCells_at P b (pre.length + i) T xs 0 us.toArray m.w hb (by rw [hlen]; simp only [Nat.add_zero, List.size_toArray]; omega) (fun u hu => by
  rw [← hxs] at hu; obtain ⟨c, _, rfl⟩ := List.mem_map.1 hu; rfl)
 simp only [Nat.add_zero] at hst
 have hput : putAt us.toArray (pre.length + i) xs = (pre ++ (List.range n).map (fun q => Value.int kk (nG f i i2 cnt q)) ++ post).toArray := by
  apply Array.ext_getElem?
  intro q
  rw [oG _ _ _ (by rw [hlen, List.size_toArray]; omega), List.getElem?_toArray, List.getElem?_toArray, wU, hlen]
  by_cases h1 : pre.length + i ≤ q ∧ q < pre.length + i + cnt
  · rw [if_pos h1, if_neg (by omega), if_pos (by omega), ← hxs, List.getElem?_map, List.getElem?_range (by omega)]
    unfold nG
    rw [if_pos ⟨by omega, by omega⟩, show q - pre.length - i + i2 = i2 + (q - (pre.length + i)) by omega]; rfl
  · rw [if_neg h1, ← hus, wU]
    split
    · rfl
    · split
      · unfold nG; rw [if_neg (by omega)]
      · rfl
 have hw : m.w.grownBy (m.w.setRow b (putAt us.toArray (pre.length + i) xs)) (some b) := ⟨rfl, rfl, rfl, by simp, fun k' _ hk' => setRow_other m.w b k' _ (fun e => hk' (by rw [e]))⟩
 have hr := hS0.write hw (by simp) (setRow_heap m.w b us.toArray _ T _ hb)
 have hrun : (Builtin.copy_ #[t, t2] o.type #[.slice (some ⟨b, pre.length + i, none⟩) (j - i) c, .slice (some ⟨b, pre.length + i2, none⟩) (j2 - i2) c2]).run P m.w = .ok (.int .i64 (cnt : Nat)) (m.w.setRow b (putAt us.toArray (pre.length + i) xs)) := by
  simp [Builtin.copy_, run_underlying hT.iE, Builtin.lenOf, iz hT, hcnt, hf, hst, putAt, goInt]
 unfold ab execOp
 simp only [ho, resolve, invoke, builtin, Sem.run_bind, Sem.run_pure, Result.andThen_ok, List.map_toArray, List.map_cons, List.map_nil, hK.ev hx, hK.ev hy, hrun]
 rw [← hput] at hp
 exact hp ⟨_, m.ok⟩ hr.le hr
theorem OT {x y : Operand} {a : Act} {Kt_ : Kt} {m : Mem} {aL : Value → World → Prop} {t t2 e : TypeId} {zv : Value} {bytes b n i j c c2 : Nat} {T : TypeId} {pre post : List Value} {f : Nat → UInt8} {l : List UInt8} {a2 : Option Addr} (hT : cq P t e zv 1 bytes) (hK : Ke a Kt_)
 (hO : Ow m [az.box b (pre ++ (List.range n).map (fun q => U8 (f q)) ++ post).toArray T]) (hij : i ≤ j ∧ j ≤ n) (hE : cC nM m 1 a2 c2 l)
 (ho : o.op = .call ⟨.builtin .copy, #[x, y], #[t, t2]⟩) (hx : ed Kt_ x = some (.slice (some ⟨b, pre.length + i, none⟩) (j - i) c)) (hy : ed Kt_ y = some (.slice a2 l.length c2))
 (hp : ∀ m', Le m m' → St (ak [az.box b (pre ++ (List.range n).map (fun q => U8 (f q)) ++ post).toArray T]) m m' [az.box b (pre ++ (List.range n).map (fun q => U8 (Lo f i (Nat.min l.length (j - i)) l q)) ++ post).toArray T] → aL (.int .i64 ((Nat.min l.length (j - i) : Nat) : Int)) m'.w) : ab P o a m.w aL := by
 generalize hus : (pre ++ (List.range n).map (fun q => U8 (f q)) ++ post) = us at *
 have hsz : us.length = pre.length + n + post.length := by rw [← hus]; simp; omega
 generalize hcnt : Nat.min l.length (j - i) = cnt at *
 have hc1 : cnt ≤ l.length := by rw [← hcnt]; exact Nat.min_le_left _ _
 have hc2 : cnt ≤ j - i := by rw [← hcnt]; exact Nat.min_le_right _ _
 generalize hxs : (l.take cnt).map U8 = xs
 have hlen : xs.length = cnt := by rw [← hxs]; simp; omega
 have hf : (Builtin.firstCells 1 cnt (.slice a2 l.length c2)).run P m.w = .ok xs.toArray m.w := by rw [← hxs]; exact EM hE cnt hc1
 have hS0 := St.refl hO
 have hb := hS0.wK 0 rfl
 have hst := run_storeCells_at P b (pre.length + i) T xs 0 us.toArray m.w hb (by rw [hlen]; simp only [Nat.add_zero, List.size_toArray]; omega) (fun u hu => by
  rw [← hxs] at hu; obtain ⟨c, _, rfl⟩ := List.mem_map.1 hu; rfl)
 simp only [Nat.add_zero] at hst
 have hput : putAt us.toArray (pre.length + i) xs = (pre ++ (List.range n).map (fun q => U8 (Lo f i cnt l q)) ++ post).toArray := by
  apply Array.ext_getElem?
  intro q
  rw [oG _ _ _ (by rw [hlen, List.size_toArray]; omega), List.getElem?_toArray, List.getElem?_toArray, wU, hlen]
  by_cases h1 : pre.length + i ≤ q ∧ q < pre.length + i + cnt
  · rw [if_pos h1, if_neg (by omega), if_pos (by omega), ← hxs, List.getElem?_map, List.getElem?_take, if_pos (by omega), List.getElem?_eq_getElem (by omega)]
    unfold Lo
    rw [if_pos ⟨by omega, by omega⟩, List.getD_eq_getElem?_getD, show q - pre.length - i = q - (pre.length + i) by omega, List.getElem?_eq_getElem (by omega)]; rfl
  · rw [if_neg h1, ← hus, wU]
    split
    · rfl
    · split
      · unfold Lo; rw [if_neg (by omega)]
      · rfl
 have hw : m.w.grownBy (m.w.setRow b (putAt us.toArray (pre.length + i) xs)) (some b) := ⟨rfl, rfl, rfl, by simp, fun k' _ hk' => setRow_other m.w b k' _ (fun e => hk' (by rw [e]))⟩
 have hr := hS0.write hw (by simp) (setRow_heap m.w b us.toArray _ T _ hb)
 have hcnt' : Nat.min (j - i) l.length = cnt := by rw [← hcnt]; exact Nat.min_comm _ _
 have hrun : (Builtin.copy_ #[t, t2] o.type #[.slice (some ⟨b, pre.length + i, none⟩) (j - i) c, .slice a2 l.length c2]).run P m.w = .ok (.int .i64 (cnt : Nat)) (m.w.setRow b (putAt us.toArray (pre.length + i) xs)) := by
  simp [Builtin.copy_, run_underlying hT.iE, Builtin.lenOf, iz hT, hcnt, hcnt', hf, hst, putAt, goInt]
 unfold ab execOp
 simp only [ho, resolve, invoke, builtin, Sem.run_bind, Sem.run_pure, Result.andThen_ok, List.map_toArray, List.map_cons, List.map_nil, hK.ev hx, hK.ev hy, hrun]
 rw [← hput] at hp
 exact hp ⟨_, m.ok⟩ hr.le hr
theorem HY {t t2 : TypeId} {ec : TypeId × Co} {zv : Value} {bytes : Nat} (hE : cq P t ec.1 zv (zK K ec.2) bytes) {x y : Operand} (ho : o.op = .call ⟨.builtin .copy, #[x, y], #[t, t2]⟩) {q off n : Nat} {i j : Int} {s : CV S} (h : z7 ec q off n i j s ob k = some r) : cP P K o [.one (.px q off n i j), .one s] ob ct k r := by
 have hox : o.op.operands.toList = [x, y] := by rw [ho]; rfl
 unfold z7 at h
 split at h
 · rename_i q' off' n' i' j' kk0 hco
   split at h
   · rename_i hbe
     simp only [Bool.and_eq_true, Nat.beq_eq] at hbe
     obtain ⟨rfl, rfl, rfl⟩ := hbe
     obtain ⟨⟨ver, ao⟩, hq, h'⟩ := Option.bind_eq_some_iff.1 h
     clear h; have h := h'; clear h'
     split at h
     · rename_i T cs hao
       simp only at hao; subst hao
       obtain ⟨cs1, hcs1, h'⟩ := Option.bind_eq_some_iff.1 h
       clear h; have h := h'; clear h'
       split at h
       · rename_i n1 kk f ws
         split at h
         · rename_i hn
           have hn := Nat.eq_of_beq_eq_true hn
           subst hn
           obtain ⟨cs', hcs', h'⟩ := Option.bind_eq_some_iff.1 h
           clear h; have h := h'; clear h'
           refine ⟨_, h, by simp, fun g a m Lr Lm hf _ ha hr hm hO => ?_⟩
           simp only [pick, dm] at hr
           subst hr
           obtain ⟨e, rfl, hoo, gh', b', us, j1, j2, rfl, j4⟩ := cl hm hq
           rw [hox] at ha
           obtain ⟨hv, hw⟩ := cR ha
           simp only [aA, au] at hv hw
           obtain ⟨gh, b, k1, k2, k3, k4, k5, k6⟩ := hv
           rw [k1] at j1; have e1 := Option.some.inj j1; subst e1
           rw [k2] at j2; have e2 := Option.some.inj j2; subst e2
           obtain ⟨gh2, b2, l1, l2, l3, l4, l5, l6⟩ := hw
           rw [k1] at l1; have e1 := Option.some.inj l1; subst e1
           rw [k2] at l2; have e2 := Option.some.inj l2; subst e2
           obtain ⟨pre, c1, post, rfl, p2, p3, p4⟩ := xI hcs' hcs1 j4
           simp only [au] at p3
           subst p3
           subst p2
           have hz : zK K ec.2 = 1 := by rw [hco]; rfl
           rw [hz] at hE
           obtain ⟨i, rfl⟩ : ∃ z : Nat, i = (z : Int) := ⟨i.toNat, by omega⟩
           obtain ⟨j, rfl⟩ : ∃ z : Nat, j = (z : Int) := ⟨j.toNat, by omega⟩
           obtain ⟨i', rfl⟩ : ∃ z : Nat, i' = (z : Int) := ⟨i'.toNat, by omega⟩
           obtain ⟨j', rfl⟩ : ∃ z : Nat, j' = (z : Int) := ⟨j'.toNat, by omega⟩
           have hx : a.eval x = .slice (some ⟨b, pre.length + i, none⟩) (j - i) (n1 - i) := by
            have : ((j : Int) - (i : Int)).toNat = j - i := by omega
            simpa [this] using k3
           have hy : a.eval y = .slice (some ⟨b, pre.length + i', none⟩) (j' - i') (n1 - i') := by
            have : ((j' : Int) - (i' : Int)).toNat = j' - i' := by omega
            simpa [this] using l3
           have hmin : dr ((j : Int) - (i : Int)) ((j' : Int) - (i' : Int)) = ((Nat.min (j' - i') (j - i) : Nat) : Int) := by
            unfold dr
            rcases Nat.lt_or_ge (j' - i') (j - i) with h | h
            · rw [if_pos (by omega), show Nat.min (j' - i') (j - i) = j' - i' from Nat.min_eq_left (by omega)]; omega
            · rw [if_neg (by omega), show Nat.min (j' - i') (j - i) = j - i from Nat.min_eq_right h]; omega
           refine QD (n := n1) (i := i) (j := j) (i2 := i') (j2 := j') hE (bQ a [x, y]) (by simpa using hO) ⟨by omega, by omega⟩ ⟨by omega, by omega⟩ ho (by rw [aE a [x, y] (by simp), hx]) (by rw [aE a [x, y] (by simp), hy]) fun m' hle hS => ?_
           refine ⟨m', g, _, rfl, by simpa using hS, GE.refl g, rfl, rfl, fun i h => absurd rfl h, ⟨_, [], rfl, ⟨gh, b, _, k1, k2, rfl, p4 g m' (GE.refl g) hle _ ?_⟩, rfl⟩, ?_⟩
           · simp only [au, Int.toNat_natCast, hmin]
           · simp only [aA, au, hmin]
         · cases h
       · cases h
     · cases h
   · cases h
 · rename_i hco
   obtain ⟨l, hl, h'⟩ := Option.bind_eq_some_iff.1 h
   clear h; have h := h'; clear h'
   obtain ⟨⟨ver, ao⟩, hq, h'⟩ := Option.bind_eq_some_iff.1 h
   clear h; have h := h'; clear h'
   split at h
   · rename_i T cs hao
     simp only at hao; subst hao
     obtain ⟨cs1, hcs1, h'⟩ := Option.bind_eq_some_iff.1 h
     clear h; have h := h'; clear h'
     split at h
     · rename_i n1 f ws
       split at h
       · rename_i hn
         have hn := Nat.eq_of_beq_eq_true hn
         subst hn
         obtain ⟨cs', hcs', h'⟩ := Option.bind_eq_some_iff.1 h
         clear h; have h := h'; clear h'
         refine ⟨_, h, by simp, fun g a m Lr Lm hf _ ha hr hm hO => ?_⟩
         simp only [pick, dm] at hr
         subst hr
         obtain ⟨e, rfl, hoo, gh', b', us, j1, j2, rfl, j4⟩ := cl hm hq
         rw [hox] at ha
         obtain ⟨hv, hw⟩ := cR ha
         simp only [aA] at hv hw
         simp only [au] at hv
         obtain ⟨gh, b, k1, k2, k3, k4, k5, k6⟩ := hv
         rw [k1] at j1; have e1 := Option.some.inj j1; subst e1
         rw [k2] at j2; have e2 := Option.some.inj j2; subst e2
         obtain ⟨ad, c2, hy, hEl⟩ := jw hl hw
         obtain ⟨pre, c1, post, rfl, p2, p3, p4⟩ := xI hcs' hcs1 j4
         simp only [au] at p3
         subst p3
         subst p2
         have hz : zK K ec.2 = 1 := by rw [hco]; rfl
         rw [hz] at hE
         obtain ⟨i, rfl⟩ : ∃ z : Nat, i = (z : Int) := ⟨i.toNat, by omega⟩
         obtain ⟨j, rfl⟩ : ∃ z : Nat, j = (z : Int) := ⟨j.toNat, by omega⟩
         have hx : a.eval x = .slice (some ⟨b, pre.length + i, none⟩) (j - i) (n1 - i) := by
          have : ((j : Int) - (i : Int)).toNat = j - i := by omega
          simpa [this] using k3
         have hmin : dr (List.length (α := UInt8) l : Int) ((j : Int) - (i : Int)) = ((Nat.min (List.length (α := UInt8) l) (j - i) : Nat) : Int) := by
          unfold dr
          rcases Nat.lt_or_ge (j - i) (List.length (α := UInt8) l) with h | h
          · rw [if_pos (by omega), show Nat.min (List.length (α := UInt8) l) (j - i) = j - i from Nat.min_eq_right (by omega)]; omega
          · rw [if_neg (by omega), show Nat.min (List.length (α := UInt8) l) (j - i) = List.length (α := UInt8) l from Nat.min_eq_left h]
         refine OT (l := l) (n := n1) (i := i) (j := j) hE (bQ a [x, y]) (by simpa using hO) ⟨by omega, by omega⟩ hEl ho (by rw [aE a [x, y] (by simp), hx]) (by rw [aE a [x, y] (by simp), hy]; rfl) fun m' hle hS => ?_
         refine ⟨m', g, _, rfl, by simpa using hS, GE.refl g, rfl, rfl, fun i h => absurd rfl h, ⟨_, [], rfl, ⟨gh, b, _, k1, k2, rfl, p4 g m' (GE.refl g) hle _ ?_⟩, rfl⟩, ?_⟩
         · simp only [au, Int.toNat_natCast, hmin]
         · simp only [aA, au, hmin]
       · cases h
     · cases h
   · cases h
 · cases h
theorem Ka (hT : cn P K tt) {t t2 : TypeId} {x y : Operand} (ho : o.op = .call ⟨.builtin .copy, #[x, y], #[t, t2]⟩) {d s : CV S} (h : yU tt t d s ob k = some r) : cP P K o [.one d, .one s] ob ct k r := by
 have hox : o.op.operands.toList = [x, y] := by rw [ho]; rfl
 unfold yU at h
 obtain ⟨ec, hec, h'⟩ := Option.bind_eq_some_iff.1 h
 clear h; have h := h'; clear h'
 obtain ⟨hu, ei, hei, hE, hb⟩ := gX hT hec
 split at h
 · rename_i q c off n
   obtain ⟨⟨ver, ao⟩, hq, h'⟩ := Option.bind_eq_some_iff.1 h
   clear h; have h := h'; clear h'
   split at h
   · rename_i e c' full l hao
     simp only at hao; subst hao
     split at h
     · rename_i hc1 hc2 hc3 _ _ _
       subst hc1; subst hc2
       rw [hc3] at hE
       obtain ⟨x2, hx2, h'⟩ := Option.bind_eq_some_iff.1 h
       clear h; have h := h'; clear h'
       refine ⟨_, h, by simp, fun g a m Lr Lm hf _ ha hr hm hO => ?_⟩
       simp only [pick, dm] at hr
       subst hr
       obtain ⟨en, rfl, hoo, gh, cs, j1, j2, rfl, j4, j5⟩ := cl hm hq
       rw [hox] at ha
       obtain ⟨hv, hw⟩ := cR ha
       simp only [aA, au] at hv
       obtain ⟨gh', k1, k2, k3, k4, k5⟩ := hv
       rw [j1] at k1; have e1 := Option.some.inj k1; subst e1
       have hx : a.eval x = .slice (cW gh.ad gh.cap off.toNat 1) n.toNat (gh.cap - off.toNat) := by simpa [zK, wo] using k2
       have hO' : Ow m [az.arr gh.g cs e] := by simpa using hO
       have hA : eh nM m 1 gh.g cs gh.ad gh.cap l := j4
       have hfit : off.toNat + n.toNat ≤ l.length := by omega
       obtain ⟨a2, c2, hy, hsrc⟩ : ∃ (a2 : Option Addr) (c2 : Nat), a.eval y = .slice a2 x2.length c2 ∧ ∀ z, z ≤ x2.length → (Builtin.firstCells 1 z (.slice a2 x2.length c2)).run P m.w = .ok ((x2.take z).map U8).toArray m.w := by
        rcases KN hx2 with ⟨off2, n2, rfl, hxe⟩ | hs
        · simp only [aA, au] at hw
          obtain ⟨gh', p1, p2, p3, p4, p5⟩ := hw
          rw [j1] at p1; have e1 := Option.some.inj p1; subst e1
          have hl2 : ((l.drop off2.toNat).take n2.toNat).length = n2.toNat := by rw [List.length_take, List.length_drop]; omega
          have hlx : x2.length = n2.toNat := (congrArg List.length hxe).trans hl2
          refine ⟨cW gh.ad gh.cap off2.toNat 1, gh.cap - off2.toNat, by rw [hlx]; simpa [zK, wo] using p2, fun z hz => ?_⟩
          have := IM (P := P) (c2 := gh.cap - off2.toNat) 0 (St.refl hO') rfl hA (off := off2.toNat) (n := n2.toNat) (by have : List.length (α := UInt8) l = gh.n := j2; omega) z (Nat.le_trans hz (Nat.le_of_eq hlx))
          rw [hlx, hxe]
          exact this
        · simp only [aA] at hw
          obtain ⟨ad, c2, p1, p2⟩ := jw hs hw
          exact ⟨ad, c2, p1, fun z hz => EM p2 z hz⟩
       have hlen : (Jg (α := UInt8) l off.toNat (x2.take n.toNat)).length = gh.n := Eq.trans (wX (α := UInt8) (l := l) (x := x2.take n.toNat) (o := off.toNat) (show off.toNat ≤ List.length (α := UInt8) l by have : List.length (α := UInt8) l = gh.n := j2; omega)) j2
       refine KD hE (bQ a [x, y]) 0 (St.refl hO') rfl hA hfit hsrc ho (by rw [aE a [x, y] (by simp), hx]) (by rw [aE a [x, y] (by simp), hy]) fun m' cs2 hle hS hA2 hsz => ?_
       rw [show ((n.toNat : Nat) : Int) = n by omega]
       refine ⟨m', g, [az.arr gh.g cs2 e], rfl, by simpa using hS, GE.refl g, rfl, rfl, fun i h => absurd rfl h, ⟨_, [], rfl, ⟨gh, cs2, j1, hlen, rfl, hA2, fun hf' => ?_⟩, rfl⟩, by simp only [aA, au]⟩
       obtain ⟨q1, q2⟩ := j5 hf'
       refine ⟨q1, ?_, fun b hb => by rw [hsz]; exact q2.2 b hb⟩
       rw [← q1]; exact hA2
     · cases h
   · cases h
 · exact HY hE ho h
 · cases h
theorem HX (hT : cn P K tt) {t : TypeId} {x : Operand} (ho : o.op = .call ⟨.builtin .clear, #[x], #[t]⟩) {v : CV S} (h : uf tb tt t v ob k = some r) : cP P K o [.one v] ob ct k r := by
 have hox : o.op.operands.toList = [x] := by rw [ho]; rfl
 unfold uf at h
 obtain ⟨ec, hec, h'⟩ := Option.bind_eq_some_iff.1 h
 clear h; have h := h'; clear h'
 obtain ⟨ei, hei, h'⟩ := Option.bind_eq_some_iff.1 h
 clear h; have h := h'; clear h'
 obtain ⟨z, hz, h'⟩ := Option.bind_eq_some_iff.1 h
 clear h; have h := h'; clear h'
 obtain ⟨hu, ei', hei', hE, hb⟩ := gX hT hec
 rw [hei] at hei'; cases hei'
 have hty := hT.ty _ _ hei
 split at h
 · rename_i q c off n
   obtain ⟨⟨ver, ao⟩, hq, h'⟩ := Option.bind_eq_some_iff.1 h
   clear h; have h := h'; clear h'
   split at h
   · rename_i e' c' full l hao
     simp only at hao; subst hao
     split at h
     · rename_i hc1 hc2 _ _
       subst hc1; subst hc2
       refine ⟨_, h, by simp, fun g a m Lr Lm hf _ ha hr hm hO => ?_⟩
       simp only [pick, dm] at hr
       subst hr
       obtain ⟨en, rfl, hoo, gh, cs, j1, j2, rfl, j4, j5⟩ := cl hm hq
       rw [hox] at ha
       have hv := cL ha
       simp only [aA, au] at hv
       obtain ⟨gh', k1, k2, k3, k4, k5⟩ := hv
       rw [j1] at k1; have e1 := Option.some.inj k1; subst e1
       have hx : a.eval x = .slice (cW gh.ad gh.cap off.toNat (zK K ec.2)) n.toNat (gh.cap - off.toNat) := by simpa using k2
       have hO' : Ow m [az.arr gh.g cs e'] := by simpa using hO
       have hfit : off.toNat + n.toNat ≤ l.length := by omega
       have hRz : RK K ec.2 m z (zeroOf ei).cells.toList := by rw [jz hty]; exact oD (K := K) (g := g) (m := m) hz (il hty.JD)
       refine IB (bj K ec.2) hE (bQ a [x]) 0 (St.refl hO') rfl j4 hfit hRz (by rw [jz hty]; exact Cz hty.JD) ho (by rw [aE a [x] (by simp), hx]) fun m' cs2 hle hS hA2 hsz => ?_
       refine ⟨m', g, [az.arr gh.g cs2 e'], rfl, by simpa using hS, GE.refl g, rfl, rfl, fun i h => absurd rfl h, ⟨_, [], rfl, ⟨gh, cs2, j1, (AY hfit).trans j2, rfl, hA2, fun hf' => ?_⟩, rfl⟩, by simp only [aA, bU]; exact ⟨[], rfl, rfl⟩⟩
       obtain ⟨q1, q2⟩ := j5 hf'
       refine ⟨q1, ?_, fun b hb => by rw [hsz]; exact q2.2 b hb⟩
       rw [← q1]; exact hA2
     · cases h
   · cases h
 · cases h
theorem H3 {t : TypeId} {x y : Operand} (ho : o.op = .index t x y) (hu : P.underlying t = some .string) {l : List UInt8} {iv : AV S} {i : Int} (hi : idxOf iv = some i) {c : UInt8} (hc : idx l i = some c) (h : k (val (.u8 c)) = some r) : cP P K o [.one (.str l), iv] ob ct k r := by
 have hox : o.op.operands.toList = [x, y] := by rw [ho]; rfl
 refine jo hox h fun g a m hv hw => ?_
 simp only [au] at hv
 have hx : a.eval x = .string (Proofs.YtekpafdhgkocaaaGreat.str l) := by simpa using hv
 obtain ⟨kk, hy⟩ := ld hi hw
 obtain ⟨jn, rfl, hj⟩ := ox hc
 refine ab.val (v := .int .u8 (c.toNat : Int)) ?_ ⟨rfl, by simp only [val, aA, au]⟩
 have hlt := (List.getElem?_eq_some_iff.1 hj).1
 have he := (List.getElem?_eq_some_iff.1 hj).2
 have hb : ((⟨l.toArray⟩ : ByteArray))[jn]? = some c := by
  have hs : jn < (⟨l.toArray⟩ : ByteArray).size := by simpa [ByteArray.size] using hlt
  rw [getElem?_pos (⟨l.toArray⟩ : ByteArray) jn hs]
  exact congrArg some (by rw [← he]; rfl)
 simp [execOp, ho, hx, hy, Instr.index, asIntOf, run_underlying hu, hb]
theorem B2 (hT : cn P K tt) {t e : TypeId} {x y : Operand} (ho : o.op = .index t x y) {n : Nat} (hu : P.underlying t = some (.array n e)) {ei : TI S} (hei : tt e = some ei) (hs : ei.size = 1) (hA : dS ei.d = false) {kk : IntKind} {f : Nat → Int} {iv : AV S} {i : Int} (hi : idxOf iv = some i) (hc : 0 ≤ i ∧ i < (n : Int)) (h : k (val (.int kk (aD f i))) = some r) : cP P K o [.agg [.ai n kk f], iv] ob ct k r := by
 have hox : o.op.operands.toList = [x, y] := by rw [ho]; rfl
 refine ⟨_, h, cY fun g a m ha => ?_⟩
 rw [hox] at ha
 obtain ⟨hv, hw⟩ := cR ha
 simp only [aA] at hv
 obtain ⟨cs, hx, hcs⟩ := hv
 have hcs := jJ hcs
 simp only [au] at hcs
 subst hcs
 obtain ⟨ky, hy⟩ := ld hi hw
 have hag := (hT.ty e ei hei).agg
 rw [hA, hs] at hag
 obtain ⟨d', i', hu', hi', hd', hs'⟩ := ik hag
 obtain ⟨i, rfl⟩ : ∃ z : Nat, i = (z : Int) := ⟨i.toNat, by omega⟩
 have hin : i < n := by omega
 refine ⟨.int kk (f i), ?_, by simp only [val, aA, au]; simp [aD]⟩
 have hcell : (((List.range n).map (fun q => Value.int kk (f q))).toArray)[i * 1]? = some (.int kk (f i)) := by
  rw [List.getElem?_toArray, Nat.mul_one, List.getElem?_map, List.getElem?_range hin]; rfl
 have hb : (isAgg e).run P m.w = .ok false m.w := by rw [kQ hu', hd']
 have hlt : (i : Int) < (n : Int) := hc.2
 simp [execOp, ho, hx, hy, Instr.index, asIntOf, run_underlying hu, part, hb, sizeOf, typeInfo, hi', hs', hin]
end E
end Go.Proofs.YtekpafdhgkocaaaGreat
