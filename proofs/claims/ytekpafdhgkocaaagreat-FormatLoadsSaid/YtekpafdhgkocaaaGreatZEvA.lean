/- Part of what the laws need: plain words, the walker and its laws, the program's functions. -/
import Derived.Test.YtekpafdhgkocaaaGreatZEvN
import Derived.Great.BuildSlice
namespace Go.Proofs.YtekpafdhgkocaaaGreat
open Go.RowKit G
namespace E
variable {S : Nat → Type} {tb : Tb S} {K : cV tb} {P : Program} {o : Oper} {xs : List (AV S)} {ob : List (Nat × Nat × AO S)} {ct : Nat} {γ : Type} {k : iH S → Option γ} {r : γ} {tt : TypeId → Option (TI S)} {g : GG S} {m : Mem} {fa : FA S}
theorem ME (hT : cn P K tt) {t : TypeId} {x : Operand} (ho : o.op = .call ⟨.builtin .len, #[x], #[t]⟩) {v : CV S} (h : FH tt t v ob k = some r) : cP P K o [.one v] ob ct k r := by
 have hox : o.op.operands.toList = [x] := by rw [ho]; rfl
 unfold FH at h
 obtain ⟨ti, hti, h'⟩ := Option.bind_eq_some_iff.1 h
 clear h; have h := h'; clear h'
 have htd := (hT.ty t ti hti).td
 have run : ∀ {a : Act} {w : World} {e : TypeId} {ad : Option Addr} {n c : Nat}, P.underlying t = some (.slice e) → a.eval x = .slice ad n c → (execOp a.eval o).run P w = .ok (.value (.int .i64 (n : Int))) w := fun {a w e ad n c} hu hx => by
  simp [execOp, ho, resolve, invoke, builtin, hx, Ky (P := P) (w := w) (ty := o.type) hu]
 split at h
 · rename_i e hd
   rw [hd] at htd
   split at h
   · refine jm (t := t) hox h fun g a m hv => ?_
     simp only [au] at hv
     obtain ⟨ad, c, hx, _⟩ := hv
     exact ab.val (run htd (by simpa using hx)) ⟨rfl, by simp only [val, aA, au]⟩
   · refine jm (t := t) hox h fun g a m hv => ?_
     simp only [au] at hv
     obtain ⟨ad, hx, _⟩ := hv
     exact ab.val (run htd (by simpa using hx)) ⟨rfl, by simp only [val, aA, au]⟩
   · refine jm (t := t) hox h fun g a m hv => ?_
     simp only [au] at hv
     obtain ⟨gh, _, _, _, hx, _⟩ := hv
     exact ab.val (run htd (by simpa using hx)) ⟨rfl, by simp only [val, aA, au]⟩
   · refine jm (t := t) hox h fun g a m hv => ?_
     simp only [au] at hv
     exact ab.val (run htd (by simpa using hv)) ⟨rfl, by simp only [val, aA, au]; rfl⟩
   · rename_i q
     obtain ⟨⟨ver, ao⟩, hq, h'⟩ := Option.bind_eq_some_iff.1 h
     clear h; have h := h'; clear h'
     split at h
     · rename_i e' c f l hao
       simp only at hao; subst hao
       refine ir hox hq h fun g a m en hv hoo hob hO => ?_
       simp only [au] at hv
       obtain ⟨gh, k1, k2⟩ := hv
       obtain ⟨gh', cs, j1, j2, _⟩ := hob
       rw [k1] at j1; have e1 := Option.some.inj j1; subst e1
       exact ⟨_, run htd (by simpa using k2), by simp only [aA, au, j2]⟩
     · cases h
   · cases h
 · rename_i hd
   rw [hd] at htd
   split at h
   · rename_i l
     refine jm (t := t) hox h fun g a m hv => ?_
     simp only [au] at hv
     have hx : a.eval x = .string (Proofs.YtekpafdhgkocaaaGreat.str l) := by simpa using hv
     refine ab.val (v := .int .i64 (l.length : Int)) ?_ ⟨rfl, by simp only [val, aA, au]⟩
     have hu : P.underlying t = some .string := htd
     have hl : (Builtin.len_ #[t] o.type #[.string (Proofs.YtekpafdhgkocaaaGreat.str l)]).run P m.w = .ok (.int .i64 (l.length : Int)) m.w := by
      simp only [Builtin.len_, List.getElem?_toArray, List.getElem?_cons_zero, Sem.run_bind, run_underlying hu, Result.andThen_ok, Sem.run_pure, goInt]; rfl
     unfold execOp
     simp only [ho, resolve, invoke, builtin, Sem.run_bind, Sem.run_pure, Result.andThen_ok, List.map_toArray, List.map_cons, List.map_nil, hx, hl]
   · cases h
 · rename_i kt et hd
   rw [hd] at htd
   split at h
   · rename_i q
     obtain ⟨⟨ver, ao⟩, hq, h'⟩ := Option.bind_eq_some_iff.1 h
     clear h; have h := h'; clear h'
     split at h
     · rename_i t' kc vc l hole hao
       simp only at hao; subst hao
       refine ir hox hq h fun g a m en hv hoo hob hO => ?_
       simp only [au] at hv
       obtain ⟨gh, b, k1, k2, k3⟩ := hv
       obtain ⟨gh', b', es, clock, j1, j2, rfl, j4, _⟩ := hob
       rw [k1] at j1; have e1 := Option.some.inj j1; subst e1
       rw [k2] at j2; have e2 := Option.some.inj j2; subst e2
       have hb : m.w.heap[b]? = some (.map es clock) := hO.ok _ List.mem_cons_self
       have hl : (es.size : Int) = (l.length : Int) := by have h0 : es.size = l.length := (by simpa using j4.qD.len); rw [h0]
       have hx : a.eval x = .map (some b) := by simpa using k3
       refine ⟨.int .i64 (l.length : Int), ?_, by simp only [aA, au]⟩
       have hu : P.underlying t = some (.map kt et) := htd
       have hlen : (Builtin.len_ #[t] o.type #[.map (some b)]).run P m.w = .ok (.int .i64 (l.length : Int)) m.w := by
        simp [Builtin.len_, run_underlying hu, MapKept.run_getObj_map hb, goInt, hl]
       simp [execOp, ho, resolve, invoke, builtin, hx, hlen]
     · cases h
   · cases h
 · cases h
theorem D9 (hf : rS g ct) {e : TypeId} {c : Co} {Lm : List az} {g' : Option Nat} {cap : Nat} {l : List (T S c)} {m' : Mem} (hle : Le m m') (hS : St (ak Lm) m m' [rowOf e (zK K c) g' cap l]) (hE : cC (RK K c) m' (zK K c) (dW g') cap l) {rm : List Nat} :
 ve K g m ct [] Lm { v := .one (.rw (ct + 1) c l), rm := rm, add := [(ct + 1, .row e c)] } (.slice (dW g') l.length cap) m'.w := by
 have hge := GG.eB (x := ⟨g', none, cap, l.length, default⟩) (hf (ct + 1) (by omega) (by omega)).1
 refine ⟨m', g.gg (ct + 1) ⟨g', none, cap, l.length, default⟩, [rowOf e (zK K c) g' cap l], rfl, by simpa using hS, hge, rfl, rfl, GG.dj, ⟨_, [], rfl, ⟨_, GG.bt, rfl⟩, rfl⟩, ?_⟩
 simp only [aA, au]
 exact ⟨_, [], dW g', GG.bt, rfl, hE, hE, rfl, fun _ => (eU _ _ _).symm⟩
theorem Bz (hf : rS g ct) {e : TypeId} {c : Co} {Lm : List az} {g' : Option Nat} {cap : Nat} {l0 l : List (T S c)} {ad : Option Addr} {m' : Mem} (hle : Le m m') (hS : St (ak Lm) m m' [rowOf e (zK K c) g' cap (l0 ++ l)]) (hE : cC (RK K c) m' (zK K c) (dW g') cap (l0 ++ l)) (hE1 : cC (RK K c) m' (zK K c) ad (cap - l0.length) l) (had : l0.length < cap → ad = cW (dW g') cap l0.length (zK K c)) {rm : List Nat} :
 ve K g m ct [] Lm { v := .one (.rw (ct + 1) c l), rm := rm, add := [(ct + 1, .row e c)] } (.slice ad l.length (cap - l0.length)) m'.w := by
 have hge := GG.eB (x := ⟨g', none, cap, (l0 ++ l).length, default⟩) (hf (ct + 1) (by omega) (by omega)).1
 refine ⟨m', g.gg (ct + 1) ⟨g', none, cap, (l0 ++ l).length, default⟩, [rowOf e (zK K c) g' cap (l0 ++ l)], rfl, by simpa using hS, hge, rfl, rfl, GG.dj, ⟨_, [], rfl, ⟨_, GG.bt, rfl⟩, rfl⟩, ?_⟩
 simp only [aA, au]
 exact ⟨_, l0, ad, GG.bt, rfl, hE1, hE, rfl, had⟩
theorem Fq (hf : rS g ct) {e : TypeId} {c : Co} {Lr Lm : List az} {g' : Option Nat} {cap : Nat} {l0 l : List (T S c)} {ad : Option Addr} {m' : Mem} (hO : Ow m (Lr ++ Lm)) (hS : St (ak Lm) m m' [rowOf e (zK K c) g' cap (l0 ++ l)]) (hE : cC (RK K c) m' (zK K c) (dW g') cap (l0 ++ l)) (hE1 : cC (RK K c) m' (zK K c) ad (cap - l0.length) l) (had : l0.length < cap → ad = cW (dW g') cap l0.length (zK K c)) {rd rm : List Nat} :
 ve K g m ct Lr Lm { v := .one (.rw (ct + 1) c l), rd := rd, rm := rm, add := [(ct + 1, .row e c)] } (.slice ad l.length (cap - l0.length)) m'.w := by
 have hge := GG.eB (x := ⟨g', none, cap, (l0 ++ l).length, default⟩) (hf (ct + 1) (by omega) (by omega)).1
 refine ⟨m', g.gg (ct + 1) ⟨g', none, cap, (l0 ++ l).length, default⟩, [rowOf e (zK K c) g' cap (l0 ++ l)], rfl, ?_, hge, rfl, rfl, GG.dj, ⟨_, [], rfl, ⟨_, GG.bt, rfl⟩, rfl⟩, ?_⟩
 · have h0 : St (ak (Lr ++ Lm)) m m (Lm ++ Lr) := (St.refl hO).perm List.perm_append_comm
   exact (h0.frame hS).perm List.perm_append_comm
 · simp only [aA, au]
   exact ⟨_, l0, ad, GG.bt, rfl, hE1, hE, rfl, had⟩
theorem v7 (hf : rS g ct) {e : TypeId} {c : Co} {Lm : List az} {g' : Option Nat} {cs : Array Value} {cap : Nat} {l : List (T S c)} {m' : Mem} (hle : Le m m') (hS : St (ak Lm) m m' [az.arr g' cs e]) (hE : qL (RK K c) m' (zK K c) g' cs cap l) {rm : List Nat} :
 ve K g m ct [] Lm { v := .one (.aw (ct + 1)), rm := rm, add := [(ct + 1, .arr e c true l)] } (.slice (dW g') l.length cap) m'.w := by
 have hge := GG.eB (x := ⟨g', dW g', cap, l.length, default⟩) (hf (ct + 1) (by omega) (by omega)).1
 refine ⟨m', g.gg (ct + 1) ⟨g', dW g', cap, l.length, default⟩, [az.arr g' cs e], rfl, by simpa using hS, hge, rfl, rfl, GG.dj, ⟨_, [], rfl, ⟨_, cs, GG.bt, rfl, rfl, hE.1, fun _ => ⟨rfl, hE⟩⟩, rfl⟩, ?_⟩
 simp only [aA, au]
 exact ⟨_, GG.bt, rfl⟩
theorem nI {t e ty : TypeId} {z : Value} {sz bytes : Nat} {w : World} (hT : cq P t e z sz bytes) (ad : Option Addr) (n cap : Nat) (a2 : Option Addr) (cap2 : Nat) (h : n ≤ cap) :
 (Builtin.append_ #[t, t] ty #[.slice ad n cap, .slice a2 0 cap2]).run P w = .ok (.slice ad n cap) w := by
 obtain ⟨i, hi, hz, hs, hb⟩ := info_parts hT.info
 cases ad <;> cases a2 <;> simp [Builtin.append_, run_underlying hT.iE, sizeOf, typeInfo, hi, Builtin.lenOf, Builtin.firstCells, loadCells, loadCellsFrom, storeCells, h]
theorem MD (hT : cn P K tt) {t : TypeId} {x : Operand} (ho : o.op = .call ⟨.builtin .cap, #[x], #[t]⟩) {ec : TypeId × Co} (hec : eW tt t = some ec) (h : k (val (.int .i64 0)) = some r) : cP P K o [.one .bI] ob ct k r := by
 have hox : o.op.operands.toList = [x] := by rw [ho]; rfl
 obtain ⟨hu, ei, hei, hE, hb⟩ := gX hT hec
 refine jm (t := t) hox h fun g a m hv => ?_
 simp only [au] at hv
 have hx : a.eval x = .slice none 0 0 := by simpa using hv
 refine ab.val (v := .int .i64 0) ?_ ⟨rfl, by simp only [val, aA, au]⟩
 have hl : (Builtin.cap_ #[t] o.type #[.slice none 0 0]).run P m.w = .ok (.int .i64 0) m.w := by
  simp [Builtin.cap_, run_underlying hu, goInt]
 unfold execOp
 simp only [ho, resolve, invoke, builtin, Sem.run_bind, Sem.run_pure, Result.andThen_ok, List.map_toArray, List.map_cons, List.map_nil, hx, hl]
theorem uL {t e ty : TypeId} {z : Value} {sz bytes : Nat} {w w' : World} (hT : cq P t e z sz bytes) {b i n c : Nat} {a2 : Option Addr} {k cap2 : Nat} {v : Value} (hi : i < c) (hroom : i + n + k ≤ c)
 (h : (Builtin.append_ #[t, t] ty #[.slice (dW (some b)) (i + n) c, .slice a2 k cap2]).run P w = .ok v w') :
 (Builtin.append_ #[t, t] ty #[.slice (cW (dW (some b)) c i sz) n (c - i), .slice a2 k cap2]).run P w = .ok (.slice (cW (dW (some b)) c i sz) (n + k) (c - i)) w' := by
 obtain ⟨inf, hinf, hz, hs, hb⟩ := info_parts hT.info
 have h1 : i + n + k ≤ c := hroom
 have h2 : n + k ≤ c - i := by omega
 have hc : cW (dW (some b)) c i sz = some ⟨b, i * sz, none⟩ := by unfold cW; rw [if_neg (by omega)]; simp only [dW, Option.map_some, Addr.add_mid, Nat.zero_add]
 rw [hc]
 have hA1 : (⟨b, 0, none⟩ : Addr).add ((i + n) * sz) = ⟨b, (i + n) * sz, none⟩ := by rw [Addr.add_mid, Nat.zero_add]
 have hA2 : (⟨b, i * sz, none⟩ : Addr).add (n * sz) = ⟨b, (i + n) * sz, none⟩ := by rw [Addr.add_mid, Nat.add_mul]
 simp [Builtin.append_, run_underlying hT.iE, sizeOf, typeInfo, hinf, Builtin.lenOf, h1, h2, hs, dW, hA1, hA2] at h ⊢
 revert h
 generalize (Builtin.firstCells sz k (.slice a2 k cap2)).run P w = r1
 cases r1 <;> simp only [Result.andThen] <;> intro h <;> first | (cases h; done) | skip
 rename_i u w1
 revert h
 generalize (storeCells ⟨b, (i + n) * sz, none⟩ u.toList).run P w1 = r2
 cases r2 <;> intro h <;> first | (cases h; done) | skip
 cases h; rfl
theorem zF {t e : TypeId} {zv : Value} {sz bytes : Nat} {α : Type} {R : Mem → α → List Value → Prop} {x y : Operand} {a : Act} {Kt_ : Kt} {m : Mem} {aL : Value → World → Prop} {g : Option Nat} {cap cap2 : Nat} {l0 l l2 l' : List α} {a2 ad : Option Addr} (hT : cq P t e zv sz bytes) (hR : lB R sz) (hx : app bytes l l2 = some l') (hK : Ke a Kt_)
 (hO : Ow m [rowOf e sz g cap (l0 ++ l)]) (hE : cC R m sz (dW g) cap (l0 ++ l)) (hEl : cC R m sz ad (cap - l0.length) l) (had : l0.length < cap → ad = cW (dW g) cap l0.length sz) (hE2 : Gy R m sz a2 cap2 l2)
 (ho : o.op = .call ⟨.builtin .append, #[x, y], #[t, t]⟩) (hxx : ed Kt_ x = some (.slice ad l.length (cap - l0.length))) (hy : ed Kt_ y = some (.slice a2 l2.length cap2)) (hb : decide (1 ≤ bytes) = true)
 (hp : ∀ m' g' cap' l0' ad', Le m m' → St (ak [rowOf e sz g cap (l0 ++ l)]) m m' [rowOf e sz g' cap' (l0' ++ l')] → cC R m' sz (dW g') cap' (l0' ++ l') → cC R m' sz ad' (cap' - l0'.length) l' → (l0'.length < cap' → ad' = cW (dW g') cap' l0'.length sz) → aL (.slice ad' l'.length (cap' - l0'.length)) m'.w) : ab P o a m.w aL := by
 have hcap : (l0 ++ l).length ≤ cap := hE.nN.2.2
 rw [List.length_append] at hcap
 obtain ⟨hlen, rfl⟩ := mC hx
 by_cases hn : l2 = []
 · subst hn
   have := nI (P := P) (ty := o.type) (w := m.w) hT ad l.length (cap - l0.length) a2 cap2 (by omega)
   unfold ab execOp
   simp only [ho, resolve, invoke, builtin, Sem.run_bind, Sem.run_pure, Result.andThen_ok, List.map_toArray, List.map_cons, List.map_nil, hK.ev hxx, hK.ev hy, List.length_nil, this]
   have := hp m g cap l0 ad (Le.refl m) (by rw [List.append_nil]; exact St.refl hO) (by rw [List.append_nil]; exact hE) (by rw [List.append_nil]; exact hEl) had
   rwa [List.append_nil] at this
 · have hpos : 0 < l2.length := List.length_pos_iff.2 hn
   by_cases hroom : l.length + l2.length ≤ cap - l0.length
   · have hg : ∃ b, g = some b := by
      cases g with
      | some b => exact ⟨b, rfl⟩
      | none =>
        obtain ⟨css, h1, _⟩ := hE
        have hc0 := h1.2.2.2.1 rfl
        omega
     obtain ⟨b, rfl⟩ := hg
     obtain ⟨m', r1, r2, r3, r4⟩ := wF (ty := o.type) hT hR (St.refl hO) hE hE2 (by rw [List.length_append]; omega)
     rw [List.length_append] at r1
     have r5 := uL hT (by omega) (by omega) r1
     rw [← had (by omega)] at r5
     unfold ab execOp
     simp only [ho, resolve, invoke, builtin, Sem.run_bind, Sem.run_pure, Result.andThen_ok, List.map_toArray, List.map_cons, List.map_nil, hK.ev hxx, hK.ev hy, r5]
     have r6 := r4
     rw [List.append_assoc] at r6
     have r7 := r6.from l0.length (by simp)
     rw [List.drop_left, ← had (by omega)] at r7
     have := hp m' (some b) cap l0 ad r2 (by rw [← List.append_assoc]; exact r3) r6 r7 had
     rwa [List.length_append] at this
   · refine zG hT hR hx hK (St.refl hO).drop hEl hE2 ho hxx hy hb (by omega) fun m' g' cap' hle hS hA => ?_
     exact hp m' g' cap' [] (dW g') hle hS hA hA fun _ => (eU _ _ _).symm
theorem Iw {t e : TypeId} {zv : Value} {sz bytes : Nat} {α : Type} {R : Mem → α → List Value → Prop} {x y : Operand} {a : Act} {Kt_ : Kt} {m : Mem} {aL : Value → World → Prop} {g : Option Nat} {cap cap2 : Nat} {l0 l l2 l' : List α} {a2 ad : Option Addr} (hT : cq P t e zv sz bytes) (hR : lB R sz) (hx : app bytes l l2 = some l') (hK : Ke a Kt_)
 (hO : Ow m [rowOf e sz g cap (l0 ++ l)]) (hE : cC R m sz (dW g) cap (l0 ++ l)) (hEl : cC R m sz ad (cap - l0.length) l) (had : l0.length < cap → ad = cW (dW g) cap l0.length sz) (hE2 : cC R m sz a2 cap2 l2)
 (ho : o.op = .call ⟨.builtin .append, #[x, y], #[t, t]⟩) (hxx : ed Kt_ x = some (.slice ad l.length (cap - l0.length))) (hy : ed Kt_ y = some (.slice a2 l2.length cap2)) (hb : decide (1 ≤ bytes) = true)
 (hp : ∀ m' g' cap' l0' ad', Le m m' → St (ak [rowOf e sz g cap (l0 ++ l)]) m m' [rowOf e sz g' cap' (l0' ++ l')] → cC R m' sz (dW g') cap' (l0' ++ l') → cC R m' sz ad' (cap' - l0'.length) l' → (l0'.length < cap' → ad' = cW (dW g') cap' l0'.length sz) → aL (.slice ad' l'.length (cap' - l0'.length)) m'.w) : ab P o a m.w aL :=
 zF hT hR hx hK hO hE hEl had hE2.src ho hxx hy hb hp
theorem BD {α : Type} : ∀ (k : Nat) (u : α), (List.replicate k [u]).flatten = List.replicate k u
 | 0, _ => rfl
 | k + 1, u => by rw [List.replicate_succ, List.flatten_cons, BD k u, List.replicate_succ]; rfl
theorem qK {u : Value} (n : Nat) : Builtin.zeroCells #[u] n = (List.replicate n u).toArray := by
 apply Array.ext_getElem?
 intro i
 simp only [Builtin.zeroCells, List.size_toArray, List.length_cons, List.length_nil, Nat.zero_add, Nat.mul_one, Nat.mod_one, Array.getElem?_map, List.getElem?_toArray, List.getElem?_replicate]
 by_cases h : i < n
 · simp [h]
 · simp [h]
theorem Ip {t tx e ty : TypeId} {zv u : Value} {bytes : Nat} {w : World} {ad : Option Addr} {n cap k : Nat} (hT : cq P t e zv 1 bytes) (htx : P.underlying tx = some (.int .i64)) (hzc : zv.cells = #[u]) (hk : 0 < k) (hb0 : 1 ≤ bytes) (hb : (n + k) * bytes ≤ 140737488355328) :
 (∀ b i cur, ad = some ⟨b, i, none⟩ → n + k ≤ cap → w.heap[b]? = some (.cells cur e (0, 0)) → i + n + k ≤ cur.size → u.oneCell' = true →
  (Builtin.append_ #[t, tx] ty #[.slice ad n cap, .int .i64 (k : Int)]).run P w = .ok (.slice ad (n + k) cap) (w.setRow b (cur.toList.take (i + n) ++ List.replicate k u ++ cur.toList.drop (i + n + k)).toArray)) ∧
 (∀ olds : List Value, (Builtin.firstCells 1 n (.slice ad n cap)).run P w.drew = .ok olds.toArray w.drew → cap < n + k →
  (Builtin.append_ #[t, tx] ty #[.slice ad n cap, .int .i64 (k : Int)]).run P w = .ok (.slice (some ⟨w.heap.size, 0, none⟩) (n + k) (grownCap w (n + k) cap e)) (w.drew.alloc (.cells ((olds ++ List.replicate k u).toArray ++ Builtin.zeroCells zv.cells (grownCap w (n + k) cap e - (n + k))) e))) := by
 obtain ⟨i, hi, hz, hs, hby⟩ := info_parts hT.info
 have hnk : n + k ≤ (n + k) * bytes := Nat.le_mul_of_pos_right _ hb0
 have hkb : k * bytes ≤ (n + k) * bytes := Nat.mul_le_mul_right _ (by omega)
 have hw : IntKind.i64.wrap (k : Int) = (k : Int) := G.eK (by omega) (by omega)
 have h1 : ¬ ((k : Int) < 0) := by omega
 have h2 : ¬ ((281474976710656 : Int) < (k : Int) * (bytes : Int)) := by
  rw [← Int.natCast_mul]; omega
 have h6 : ¬ k = 0 := by omega
 have hzk := qK (u := u) k
 constructor
 · rintro b j cur rfl hroom hcur hfit hu
   have hst := run_storeCells_at P b (j + n) e (List.replicate k u) 0 cur w hcur (by rw [List.length_replicate]; omega) (fun v hv => by rw [List.eq_of_mem_replicate hv]; exact hu)
   simp only [Nat.add_zero, List.length_replicate] at hst
   simp [Builtin.append_, run_underlying hT.iE, run_underlying htx, sizeOf, typeInfo, zeroValue, hi, hz, hs, hby, asInt, asIntOf, hw, h1, h2, h6, hroom, hzc, hzk, Addr.add_mid, hst]
 · intro olds hold hg
   have hfit : Builtin.nextslicecap (n + k) cap * bytes ≤ 281474976710656 := growslice_fits hg hb
   have h3 : ¬ (9223372036854775807 < (n : Int) + (k : Int)) := by omega
   have h5 : ¬ (281474976710656 < Builtin.nextslicecap (n + k) cap * bytes) := by omega
   have h7 : ¬ (n + k ≤ cap) := by omega
   simp [Builtin.append_, run_underlying hT.iE, run_underlying htx, sizeOf, typeInfo, zeroValue, hi, hz, hs, hby, asInt, asIntOf, hw, h1, h2, h3, h5, h6, h7, hzc, hzk, hold, Question.forced, newRow, grownCap]
   congr 2
   apply Array.ext'
   simp
theorem F5 {t tx e ty : TypeId} {zv : Value} {sz bytes : Nat} {w : World} {ad : Option Addr} {n cap : Nat} (hT : cq P t e zv sz bytes) (htx : P.underlying tx = some (.int .i64)) (hn : n ≤ cap) :
 (Builtin.append_ #[t, tx] ty #[.slice ad n cap, .int .i64 0]).run P w = .ok (.slice ad n cap) w := by
 obtain ⟨i, hi, hz, hs, hby⟩ := info_parts hT.info
 have hw : IntKind.i64.wrap 0 = 0 := G.eK (by omega) (by omega)
 cases ad <;> simp [Builtin.append_, run_underlying hT.iE, run_underlying htx, sizeOf, typeInfo, hi, hs, hby, asInt, asIntOf, hw, hn, storeCells]
theorem F8 {t tx e : TypeId} {zv u : Value} {bytes : Nat} {α : Type} {R : Mem → α → List Value → Prop} {z : α} {x y : Operand} {a : Act} {Kt_ : Kt} {m : Mem} {aL : Value → World → Prop} {g : Option Nat} {cap k : Nat} {l0 l l' : List α} {ad : Option Addr} (hT : cq P t e zv 1 bytes) (htx : P.underlying tx = some (.int .i64)) (hzc : zv.cells = #[u]) (hu : u.oneCell' = true) (hRz : R m z [u]) (hR : lB R 1) (hx : app bytes l (List.replicate k z) = some l') (hK : Ke a Kt_)
 (hO : Ow m [rowOf e 1 g cap (l0 ++ l)]) (hE : cC R m 1 (dW g) cap (l0 ++ l)) (hEl : cC R m 1 ad (cap - l0.length) l) (had : l0.length < cap → ad = cW (dW g) cap l0.length 1)
 (ho : o.op = .call ⟨.builtin .append, #[x, y], #[t, tx]⟩) (hxx : ed Kt_ x = some (.slice ad l.length (cap - l0.length))) (hy : ed Kt_ y = some (.int .i64 (k : Int))) (hb : decide (1 ≤ bytes) = true)
 (hp : ∀ m' g' cap' l0' ad', Le m m' → St (ak [rowOf e 1 g cap (l0 ++ l)]) m m' [rowOf e 1 g' cap' (l0' ++ l')] → cC R m' 1 (dW g') cap' (l0' ++ l') → cC R m' 1 ad' (cap' - l0'.length) l' → (l0'.length < cap' → ad' = cW (dW g') cap' l0'.length 1) → aL (.slice ad' l'.length (cap' - l0'.length)) m'.w) : ab P o a m.w aL := by
 have hcap : (l0 ++ l).length ≤ cap := hE.nN.2.2
 rw [List.length_append] at hcap
 obtain ⟨hlen, rfl⟩ := mC hx
 rw [List.length_replicate] at hlen
 have hb1 : 1 ≤ bytes := of_decide_eq_true hb
 have h63 : l.length + k ≤ maxLen := by have := Nat.le_mul_of_pos_right (l.length + k) hb1; unfold maxLen; omega
 by_cases hn : k = 0
 · subst hn
   have := F5 (P := P) (ty := o.type) (w := m.w) (ad := ad) (n := l.length) (cap := cap - l0.length) hT htx (by omega)
   unfold ab execOp
   simp only [ho, resolve, invoke, builtin, Sem.run_bind, Sem.run_pure, Result.andThen_ok, List.map_toArray, List.map_cons, List.map_nil, hK.ev hxx, hK.ev hy, Int.ofNat_zero, this]
   have e : l ++ List.replicate 0 z = l := by simp
   have := hp m g cap l0 ad (Le.refl m) (by rw [e]; exact St.refl hO) (by rw [e]; exact hE) (by rw [e]; exact hEl) had
   rwa [e] at this
 · obtain ⟨hin, hgr⟩ := Ip (P := P) (ty := o.type) (w := m.w) (ad := ad) (n := l.length) (cap := cap - l0.length) (k := k) hT htx hzc (by omega) hb1 hlen
   have hdl : (List.replicate k [u]).flatten = List.replicate k u := BD k u
   have k4 : ∀ (i : Nat) (x : α) (cs : List Value), (List.replicate k z)[i]? = some x → (List.replicate k [u])[i]? = some cs → cs.length = 1 ∧ R m x cs := fun i x cs h1 h2 => by
    rw [List.getElem?_replicate] at h1 h2
    split at h1
    · cases h1; rename_i hi; rw [if_pos hi] at h2; cases h2; exact ⟨rfl, hRz⟩
    · cases h1
   by_cases hroom : l.length + k ≤ cap - l0.length
   · have hg : ∃ b, g = some b := by
      cases g with
      | some b => exact ⟨b, rfl⟩
      | none =>
        obtain ⟨css, h1, _⟩ := hE
        have hc0 := h1.2.2.2.1 rfl
        omega
     obtain ⟨b, rfl⟩ := hg
     obtain ⟨cur, hcur, hcs⟩ := hO.ok (rowOf e 1 (some b) cap (l0 ++ l)) (by simp) b rfl
     have ha := had (by omega)
     have ha2 : ad = some ⟨b, l0.length, none⟩ := by rw [ha]; unfold cW; rw [if_neg (by omega)]; simp only [dW, Option.map_some, Addr.add_mid, Nat.zero_add, Nat.mul_one]
     have r1 := hin b l0.length cur ha2 hroom hcur (by rw [hcs]; omega) hu
     obtain ⟨m', q1, q2, q3, q4⟩ := EE (dss := List.replicate k [u]) hR (St.refl hO) hE (by simp) k4 (by rw [hdl]; simp) (by rw [List.length_append, List.length_replicate]; omega) hcur hcs
     rw [hdl, List.length_append, List.length_replicate, Nat.mul_one] at q1
     rw [← q1] at r1
     unfold ab execOp
     simp only [ho, resolve, invoke, builtin, Sem.run_bind, Sem.run_pure, Result.andThen_ok, List.map_toArray, List.map_cons, List.map_nil, hK.ev hxx, hK.ev hy, r1]
     have r6 := q4
     rw [List.append_assoc] at r6
     have r7 := r6.from l0.length (by simp)
     rw [List.drop_left, ← ha] at r7
     have := hp m' (some b) cap l0 ad q2 (by rw [← List.append_assoc]; exact q3) r6 r7 had
     rwa [List.length_append, List.length_replicate] at this
   · obtain ⟨css, h1, h2, h4⟩ := hEl
     have hold : (Builtin.firstCells 1 l.length (.slice ad l.length (cap - l0.length))).run P m.w.drew = .ok css.flatten.toArray m.w.drew := by
      cases ad with
      | none =>
        have hc := h1.2.2.2.1 rfl
        have hm : l.length = 0 := by omega
        have hye : css.flatten = [] := List.eq_nil_of_length_eq_zero (by have := h1.1; omega)
        rw [hye, hm]
        exact run_firstCells_none m.w.drew 1 0 0 _
      | some a0 =>
        exact run_firstCells_some m.w.drew 1 l.length a0 l.length _ css.flatten h1.1 (fun j v hv => by
         obtain ⟨b, o', ha, _, hc⟩ := h1.2.2.2.2 j v hv
         cases ha; rw [Addr.add_mid]; exact hc)
     have r1 := hgr _ hold (by omega)
     have hge := grownCap_ge m.w (l.length + k) (cap - l0.length) e
     have hcm := grownCap_le_maxLen m.w (l.length + k) (cap - l0.length) e h63
     obtain ⟨m', q1, q2, q3, q4⟩ := wi (e := e) (dss := List.replicate k [u]) (l2 := List.replicate k z) (css := css) hR (St.refl hO).drop h2 h4 (by simp) k4 h1.1 (by rw [hdl]; simp) (cur := (css.flatten ++ List.replicate k u).toArray ++ Builtin.zeroCells zv.cells (grownCap m.w (l.length + k) (cap - l0.length) e - (l.length + k))) (cap' := grownCap m.w (l.length + k) (cap - l0.length) e)
      (by have := h1.1; rw [hzc, qK]; simp only [Array.size_append, List.size_toArray, List.length_append, List.length_replicate]; omega) (by rw [List.length_replicate]; exact hge) hcm (by
       have := h1.1
       rw [hdl, List.length_replicate, Nat.mul_one, Array.toList_append, show l.length + k = (css.flatten ++ List.replicate k u).length by rw [List.length_append, List.length_replicate]; omega]
       exact List.take_left)
     rw [← q1] at r1
     unfold ab execOp
     simp only [ho, resolve, invoke, builtin, Sem.run_bind, Sem.run_pure, Result.andThen_ok, List.map_toArray, List.map_cons, List.map_nil, hK.ev hxx, hK.ev hy, r1]
     have := hp m' (some m.w.heap.size) _ [] (dW (some m.w.heap.size)) q2 q3 q4 q4 fun _ => (eU _ _ _).symm
     rwa [List.length_append, List.length_replicate] at this
def C5 : (c : Co) → T S c → Value
 | .int k, x => .int k x
 | .u8, x => .int .u8 ((show UInt8 from x).toNat : Int)
 | .bo, x => .bool x
 | _, _ => undef
theorem JJ {c : Co} (h : xy c = true) (m : Mem) (x : T S c) : RK K c m x [C5 c x] := by
 cases c <;> simp only [xy, Bool.false_eq_true] at h <;> rfl
theorem Ec {c : Co} (h : xy c = true) {m : Mem} {x : T S c} {cs : List Value} (hx : RK K c m x cs) : cs = [C5 c x] := by
 cases c <;> simp only [xy, Bool.false_eq_true] at h <;> exact hx
theorem BC {c : Co} (h : xy c = true) (x : T S c) : (C5 c x).oneCell' = true := by
 cases c <;> simp only [xy, Bool.false_eq_true] at h <;> rfl
theorem nv {c : Co} (h : xy c = true) : zK K c = 1 := by
 cases c <;> simp only [xy, Bool.false_eq_true] at h <;> rfl
theorem Dt (hT : cn P K tt) {t tx : TypeId} {x y : Operand} (ho : o.op = .call ⟨.builtin .append, #[x, y], #[t, tx]⟩) {v w : CV S} (h : mE tb tt t tx v w ob ct k = some r) : cP P K o [.one v, .one w] ob ct k r := by
 have hox : o.op.operands.toList = [x, y] := by rw [ho]; rfl
 unfold mE at h
 obtain ⟨ec, hec, h1⟩ := Option.bind_eq_some_iff.1 h
 obtain ⟨ei0, hei0, h2⟩ := Option.bind_eq_some_iff.1 h1
 obtain ⟨xi, hxi, h3⟩ := Option.bind_eq_some_iff.1 h2
 clear h h1 h2
 obtain ⟨hu, ei, hei, hE, hb⟩ := gX hT hec
 rw [hei0] at hei; have e0 := Option.some.inj hei; subst e0
 have hb1 : decide (1 ≤ ei0.bytes) = true := decide_eq_true hb
 have htd := (hT.ty tx xi hxi).td
 split at h3
 · rename_i n hd
   rw [hd] at htd
   obtain ⟨u, hc, h4⟩ := Option.bind_eq_some_iff.1 h3
   have hc := ep hc
   refine ⟨_, h4, by simp, fun g a m Lr Lm hf _ ha hr hm hO => ?_⟩
   simp only [pick, dm] at hr hm
   subst hr; subst hm
   rw [hox] at ha
   obtain ⟨hv, hw⟩ := cR ha
   simp only [aA, au] at hv hw
   have hx : a.eval x = .slice none 0 0 := by simpa using hv
   have hy : a.eval y = .int .i64 n := by simpa using hw
   refine F9 (α := T S ec.2) (n := n.toNat) hE htd hc rfl (bQ a [x, y]) (St.refl (Ow.nil m)) ho (by rw [aE a [x, y] (by simp), hx]) (by rw [aE a [x, y] (by simp), hy]) hb1 fun m' b cap hle hcap hS => ?_
   have hge := GG.eB (x := ⟨some b, none, cap, 0, default⟩) (hf (ct + 1) (by omega) (by omega)).1
   refine ⟨m', g.gg (ct + 1) ⟨some b, none, cap, 0, default⟩, [rowOf ec.1 (zK K ec.2) (some b) cap ([] : List (T S ec.2))], rfl, by simpa using hS, hge, rfl, rfl, GG.dj, ⟨_, [], rfl, ⟨_, GG.bt, rfl⟩, rfl⟩, ?_⟩
   simp only [aA, au]
   exact ⟨_, b, GG.bt, rfl, rfl, rfl, hcap⟩
 · rename_i q d l n hd
   rw [hd] at htd
   have h := h3
   clear h3
   split at h
   · rename_i hdc hoc hA _
     subst hdc
     obtain ⟨⟨ver, ao⟩, hq, h'⟩ := Option.bind_eq_some_iff.1 h
     clear h; have h := h'; clear h'
     split at h
     · rename_i e' d' hao
       simp only at hao; subst hao
       split at h
       · rename_i hd' he' _
         have he' := Nat.eq_of_beq_eq_true he'
         subst he'; subst hd'
         obtain ⟨z, hz, h'⟩ := Option.bind_eq_some_iff.1 h
         clear h; have h := h'; clear h'
         obtain ⟨u, hc, h'⟩ := Option.bind_eq_some_iff.1 h
         clear h; have h := h'; clear h'
         obtain ⟨l2, hl2, h'⟩ := Option.bind_eq_some_iff.1 h
         clear h; have h := h'; clear h'
         have hc := ep hc
         have hety := hT.ty ec.1 ei0 hei0
         rw [nv hoc] at hE
         obtain ⟨n, rfl⟩ : ∃ z : Nat, n = (z : Int) := ⟨n.toNat, by omega⟩
         refine ⟨_, h, by simp, fun g a m Lr Lm hf _ ha hr hm hO => ?_⟩
         simp only [pick, dm] at hr
         subst hr
         obtain ⟨en, rfl, hoo, gh, j1, rfl⟩ := cl hm hq
         rw [hox] at ha
         obtain ⟨hv, hw⟩ := cR ha
         simp only [aA, au] at hv hw
         obtain ⟨gh', l0, ad, k1, k2, kE, k3, k4, k5⟩ := hv
         rw [j1] at k1; have e1 := Option.some.inj k1; subst e1
         have hx : a.eval x = .slice ad l.length (gh.cap - l0.length) := by simpa using k2
         have hy : a.eval y = .int .i64 n := by simpa using hw
         have hO' : Ow m [rowOf ec.1 1 gh.g gh.cap (l0 ++ l)] := by simpa [rowOf, k4, nv hoc] using hO
         have hRz : RK K ec.2 m z (gv ei0.zero) := oD (K := K) (g := g) (m := m) hz (il hety.JD)
         have hzl := Ec hoc hRz
         have hzc : (zeroOf ei0).cells = #[C5 ec.2 z] := by
          apply Array.ext'
          rw [jz hety, hzl]
         rw [hzl] at hRz
         have hR := bj K ec.2
         rw [nv hoc] at hR k3 kE k5
         refine F8 hE htd hzc (BC hoc z) hRz hR (by rw [Int.toNat_natCast] at hl2; exact hl2) (bQ a [x, y]) hO' k3 kE k5 ho (by rw [aE a [x, y] (by simp), hx]) (by rw [aE a [x, y] (by simp), hy]) hb1 fun m' g' cap' l0' ad' hle hS hA hA1 had => ?_
         rw [k4]
         exact Bz hf hle (by simpa [rowOf, jj, nv hoc] using hS) (by rw [nv hoc]; exact hA) (by rw [nv hoc]; exact hA1) (by rw [nv hoc]; exact had)
       · cases h
     · cases h
   · cases h
 · cases h3
theorem FU (hT : cn P K tt) {t : TypeId} {x y : Operand} (ho : o.op = .call ⟨.builtin .append, #[x, y], #[t, t]⟩) {v w : CV S} (h : pf tt fa t v w ob ct k = some r) : cP P K o [.one v, .one w] ob ct k r := by
 have hox : o.op.operands.toList = [x, y] := by rw [ho]; rfl
 unfold pf at h
 obtain ⟨ec, hec, h'⟩ := Option.bind_eq_some_iff.1 h
 clear h; have h := h'; clear h'
 obtain ⟨ei0, hei0, h'⟩ := Option.bind_eq_some_iff.1 h
 clear h; have h := h'; clear h'
 obtain ⟨l', hl', h'⟩ := Option.bind_eq_some_iff.1 h
 clear h; have h := h'; clear h'
 obtain ⟨hu, ei, hei, hE, hb⟩ := gX hT hec
 rw [hei0] at hei; have e0 := Option.some.inj hei; subst e0
 have hb1 : decide (1 ≤ ei0.bytes) = true := decide_eq_true hb
 have hR := bj K ec.2
 split at h
 · obtain ⟨l2, hl2, h'⟩ := Option.bind_eq_some_iff.1 h
   clear h; have h := h'; clear h'
   split at h
   · refine ⟨_, h, by simp, fun g a m Lr Lm hf _ ha hr hm hO => ?_⟩
     simp only [pick, dm] at hr hm
     subst hr; subst hm
     rw [hox] at ha
     obtain ⟨hv, hw⟩ := cR ha
     simp only [aA, au] at hv hw
     have hx : a.eval x = .slice none 0 0 := by simpa using hv
     obtain ⟨a2, c2, hy, hE2⟩ := jw hl' hw
     refine Iy hE hR hl2 (bQ a [x, y]) 0 ((St.refl (Ow.nil m)).GQ #[] ec.1) rfl (qL.nil m (zK K ec.2) #[]) hE2 ho (by rw [aE a [x, y] (by simp), hx]; rfl) (by rw [aE a [x, y] (by simp), hy]) hb1 fun m' g' cs' cap' hle hS hA => ?_
     exact v7 hf hle (by simpa using hS) hA
   · refine ⟨_, h, by simp, fun g a m Lr Lm hf _ ha hr hm hO => ?_⟩
     simp only [pick, dm] at hr hm
     subst hr; subst hm
     rw [hox] at ha
     obtain ⟨hv, hw⟩ := cR ha
     simp only [aA, au] at hv hw
     have hx : a.eval x = .slice none 0 0 := by simpa using hv
     obtain ⟨a2, c2, hy, hE2⟩ := jw hl' hw
     refine OP hE hR hl2 (bQ a [x, y]) 0 ((St.refl (Ow.nil m)).CL (α := T S ec.2) ec.1 (zK K ec.2)) rfl (cC.nil m (zK K ec.2)) hE2 ho (by rw [aE a [x, y] (by simp), hx]; rfl) (by rw [aE a [x, y] (by simp), hy]) hb1 fun m' g' cap' hle hS hA => ?_
     exact D9 hf hle (by simpa using hS) hA
 · rename_i q d l
   obtain ⟨⟨ver, ao⟩, hq, h'⟩ := Option.bind_eq_some_iff.1 h
   clear h; have h := h'; clear h'
   split at h
   · rename_i e' d' hd hao _
     simp only at hao; subst hao
     subst hd
     split at h
     · rename_i hd' he' _
       have he' := Nat.eq_of_beq_eq_true he'
       subst he'; subst hd'
       obtain ⟨l2, hl2, h'⟩ := Option.bind_eq_some_iff.1 h
       clear h; have h := h'; clear h'
       refine ⟨_, h, by simp, fun g a m Lr Lm hf _ ha hr hm hO => ?_⟩
       simp only [pick, dm] at hr
       subst hr
       obtain ⟨en, rfl, hoo, gh, j1, rfl⟩ := cl hm hq
       rw [hox] at ha
       obtain ⟨hv, hw⟩ := cR ha
       simp only [aA, au] at hv hw
       obtain ⟨gh', l0, ad, k1, k2, kE, k3, k4, k5⟩ := hv
       rw [j1] at k1; have e1 := Option.some.inj k1; subst e1
       have hx : a.eval x = .slice ad l.length (gh.cap - l0.length) := by simpa using k2
       obtain ⟨a2, c2, hy, hE2⟩ := jw hl' hw
       have hO' : Ow m [rowOf ec.1 (zK K ec.2) gh.g gh.cap (l0 ++ l)] := by simpa [rowOf, k4] using hO
       refine Iw hE hR hl2 (bQ a [x, y]) hO' k3 kE k5 hE2 ho (by rw [aE a [x, y] (by simp), hx]; rfl) (by rw [aE a [x, y] (by simp), hy]) hb1 fun m' g' cap' l0' ad' hle hS hA hA1 had => ?_
       rw [k4]
       exact Bz hf hle (by simpa [rowOf, jj] using hS) hA hA1 had
     · cases h
   · cases h
 · rename_i q
   obtain ⟨⟨ver, ao⟩, hq, h'⟩ := Option.bind_eq_some_iff.1 h
   clear h; have h := h'; clear h'
   split at h
   · rename_i e' d l hao
     simp only at hao; subst hao
     split at h
     · rename_i hd he' _
       have he' := Nat.eq_of_beq_eq_true he'
       subst he'; subst hd
       obtain ⟨l2, hl2, h'⟩ := Option.bind_eq_some_iff.1 h
       clear h; have h := h'; clear h'
       refine ⟨_, h, by simp, fun g a m Lr Lm hf _ ha hr hm hO => ?_⟩
       simp only [pick, dm] at hr
       subst hr
       obtain ⟨en, rfl, hoo, gh, cs, j1, j2, rfl, j4, j5⟩ := cl hm hq
       rw [hox] at ha
       obtain ⟨hv, hw⟩ := cR ha
       simp only [aA, au] at hv hw
       obtain ⟨gh', k1, k2⟩ := hv
       rw [j1] at k1; have e1 := Option.some.inj k1; subst e1
       obtain ⟨hfa, hF⟩ := j5 rfl
       have hx : a.eval x = .slice (dW gh.g) l.length gh.cap := by rw [j2, ← hfa]; simpa using k2
       obtain ⟨a2, c2, hy, hE2⟩ := jw hl' hw
       have hO' : Ow m [az.arr gh.g cs ec.1] := by simpa using hO
       refine Iy hE hR hl2 (bQ a [x, y]) 0 (St.refl hO') rfl hF hE2 ho (by rw [aE a [x, y] (by simp), hx]; rfl) (by rw [aE a [x, y] (by simp), hy]) hb1 fun m' g' cs' cap' hle hS hA => ?_
       exact v7 hf hle (by simpa using hS) hA
     · cases h
   · cases h
 · rename_i d l
   split at h
   · rename_i hd _
     subst hd
     obtain ⟨l2, hl2, h'⟩ := Option.bind_eq_some_iff.1 h
     clear h; have h := h'; clear h'
     refine ⟨_, h, by simp [val], fun g a m Lr Lm hf _ ha hr hm hO => ?_⟩
     simp only [val, pick, dm] at hr hm
     subst hr; subst hm
     rw [hox] at ha
     obtain ⟨hv, hw⟩ := cR ha
     simp only [aA, au] at hv hw
     obtain ⟨ad, hx, hE1⟩ := hv
     have hx : a.eval x = .slice ad l.length l.length := by simpa using hx
     obtain ⟨a2, c2, hy, hE2⟩ := jw hl' hw
     by_cases hn : l' = []
     · subst hn
       obtain ⟨hsz, rfl⟩ := mC hl2
       refine ab.val (v := .slice ad l.length l.length) ?_ (ve.pure rfl (by simpa using hO) ?_)
       · have := nI (P := P) (ty := o.type) (w := m.w) hE ad l.length l.length a2 c2 (Nat.le_refl _)
         simp [execOp, ho, resolve, invoke, builtin, hx, hy, this]
       · simp only [aA, au, List.append_nil]
         exact ⟨ad, l.length, rfl, hE1⟩
     · have hpos : 0 < l'.length := List.length_pos_iff.2 hn
       refine Iz hE hR hl2 (bQ a [x, y]) (St.refl (Ow.nil m)) hE1 hE2 ho (by rw [aE a [x, y] (by simp), hx]; rfl) (by rw [aE a [x, y] (by simp), hy]) hb1 (by rw [jj]; omega) fun m' g' cap' hle hS hA => ?_
       refine ⟨m', g, [], rfl, by simpa using St.drop (by simpa using hS), GE.refl g, rfl, rfl, fun i h => absurd rfl h, rfl, ?_⟩
       simp only [val, aA, au]
       exact ⟨_, _, rfl, hA⟩
   · cases h
 · cases h
theorem GV {α : Type} {R : Mem → α → List Value → Prop} {enc : α → Value} (hE : ∀ m x, R m x [enc x]) (m : Mem) (b : Nat) (l : List α) (hn : l.length ≤ maxLen) : qL R m 1 (some b) (tD enc l) l.length l := by
 have hfl : ∀ l : List α, (l.map fun c => [enc c]).flatten = l.map enc := fun l => by induction l with | nil => rfl | cons c l ih => simp [ih]
 refine ⟨⟨l.map fun c => [enc c], by simp, fun i x c hx hc => ?_, Nat.le_refl _, hn, (fun e => by cases e), fun _ => ⟨b, 0, rfl, rfl, fun j v hv => ?_⟩⟩, fun b' _ => by rw [Gl, Nat.mul_one]⟩
 · rw [List.getElem?_map, hx] at hc; simp at hc; subst hc; exact ⟨rfl, hE _ _⟩
 · rw [hfl] at hv; rw [Nat.zero_add]; unfold tD; simpa using hv
theorem MN {q off n : Nat} {i j : Int} {l : List UInt8} (h : QB q off n i j ob = some l) : ∃ ver T cs f ws, look q ob = some (ver, .box T cs) ∧ cutAt off cs = some (.a8 n f :: ws) ∧ l = ((gb n f).drop i.toNat).take (j - i).toNat := by
 unfold QB at h
 obtain ⟨⟨ver, ao⟩, hq, h⟩ := Option.bind_eq_some_iff.1 h
 split at h
 · rename_i T cs hao
   simp only at hao; subst hao
   obtain ⟨cs1, hc, h⟩ := Option.bind_eq_some_iff.1 h
   split at h
   · rename_i n1 f ws
     split at h
     · rename_i hn
       have hn := Nat.eq_of_beq_eq_true hn
       subst hn
       cases h
       exact ⟨ver, T, cs, f, ws, hq, hc, rfl⟩
     · cases h
   · cases h
 · cases h
theorem Dr (hT : cn P K tt) {t : TypeId} {x y : Operand} (ho : o.op = .call ⟨.builtin .append, #[x, y], #[t, t]⟩) {q : Nat} {d : Co} {l : List (T S d)} {q2 off n : Nat} {i j : Int} (h : mD tt t q d l q2 off n i j ob ct k = some r) : cP P K o [.one (.rw q d l), .one (.px q2 off n i j)] ob ct k r := by
 have hox : o.op.operands.toList = [x, y] := by rw [ho]; rfl
 unfold mD at h
 obtain ⟨ec, hec, h'⟩ := Option.bind_eq_some_iff.1 h
 clear h; have h := h'; clear h'
 obtain ⟨ei0, hei0, h'⟩ := Option.bind_eq_some_iff.1 h
 clear h; have h := h'; clear h'
 obtain ⟨⟨ver, ao⟩, hq, h'⟩ := Option.bind_eq_some_iff.1 h
 clear h; have h := h'; clear h'
 obtain ⟨hu, ei, hei, hE, hb⟩ := gX hT hec
 rw [hei0] at hei; have e0 := Option.some.inj hei; subst e0
 have hb1 : decide (1 ≤ ei0.bytes) = true := decide_eq_true hb
 split at h
 · rename_i e' d' hd hec2 hao _ _
   simp only at hao; subst hao
   subst hd
   split at h
   · rename_i hd' he' _
     rw [Bool.and_eq_true] at he'
     have hn0 := Nat.le_of_ble_eq_true he'.2
     have he' := Nat.eq_of_beq_eq_true he'.1
     subst he'; subst hd'
     obtain ⟨l', hl', h'⟩ := Option.bind_eq_some_iff.1 h
     clear h; have h := h'; clear h'
     obtain ⟨l2, hl2, h'⟩ := Option.bind_eq_some_iff.1 h
     clear h; have h := h'; clear h'
     obtain ⟨ver2, T2, cs, f, ws, hq2, hcs, rfl⟩ := MN hl'
     have hR : lB (RK K .u8) (zK K .u8) := bj K .u8
     rw [hec2] at hE
     refine ⟨_, h, by simp, fun g a m Lr Lm hf _ ha hr hm hO => ?_⟩
     obtain ⟨en2, rfl, hoo2, gh2, b2, us, i1, i2, rfl, i4⟩ := cl hr hq2
     obtain ⟨en, rfl, hoo, gh, j1, rfl⟩ := cl hm hq
     rw [hox] at ha
     obtain ⟨hv, hw⟩ := cR ha
     simp only [aA, au] at hv hw
     obtain ⟨gh', l0, ad, k1, k2, kE, k3, k4, k5⟩ := hv
     rw [j1] at k1; have e1 := Option.some.inj k1; subst e1
     obtain ⟨gh3, b3, w1, w2, w3, w4, w5, w6⟩ := hw
     rw [i1] at w1; have e1 := Option.some.inj w1; subst e1
     rw [i2] at w2; have e1 := Option.some.inj w2; subst e1
     have hx : a.eval x = .slice ad l.length (gh.cap - l0.length) := by simpa using k2
     have hO1 : Ow m [rowOf ec.1 (zK K .u8) gh.g gh.cap (l0 ++ l)] := by
      have : Ow m ([az.box b2 us.toArray T2] ++ [az.row gh.g ec.1 (gh.cap * zK K .u8) (gh.n * zK K .u8)]) := by simpa using hO
      simpa [rowOf, k4] using this.right
     obtain ⟨hus, hle0⟩ := mH hcs i4
     obtain ⟨ca, cr, hcat, hca, _⟩ := hus
     simp only [au] at hca
     subst hca
     have hbx : m.w.heap[b2]? = some (.cells us.toArray T2 (0, 0)) := hO.ok (.box b2 us.toArray T2) (by simp)
     obtain ⟨i, rfl⟩ : ∃ z : Nat, i = (z : Int) := ⟨i.toNat, by omega⟩
     obtain ⟨j, rfl⟩ : ∃ z : Nat, j = (z : Int) := ⟨j.toNat, by omega⟩
     have hll : (((gb n f).drop (i : Int).toNat).take ((j : Int) - (i : Int)).toNat).length = j - i := by
      simp only [gb, List.length_take, List.length_drop, List.length_map, List.length_range, Int.toNat_natCast]; omega
     have hle1 : i ≤ j := by omega
     have hle2 : j ≤ n := by omega
     generalize hL : ((gb n f).drop (i : Int).toNat).take ((j : Int) - (i : Int)).toNat = L2 at *
     have hget : ∀ z u, L2[z]? = some u → us[off + i + z]? = some (U8 u) := fun z u hz => by
      have hzl : z < L2.length := (List.getElem?_eq_some_iff.1 hz).1
      rw [← hL, List.getElem?_take, if_pos (by omega), List.getElem?_drop, Int.toNat_natCast] at hz
      unfold gb at hz
      rw [List.getElem?_map, List.getElem?_range (by omega)] at hz
      cases hz
      have : (us.drop off)[i + z]? = some (U8 (f (i + z))) := by
       rw [hcat, List.getElem?_append_left (by rw [List.length_map, List.length_range]; omega), List.getElem?_map, List.getElem?_range (by omega)]; rfl
      rw [List.getElem?_drop] at this
      rw [Nat.add_assoc]; exact this
     have hE2 : Gy nM m 1 (some ⟨b2, off + i, none⟩) (n - i) L2 := by
      refine ⟨L2.map fun u => [U8 u], ⟨by rw [wa, List.length_map, Nat.mul_one], by omega, ?_, (fun h => by cases h), fun z v hz => ?_⟩, by simp, fun z u c hz hc => ?_⟩
      · unfold maxLen; omega
      · rw [wa, List.getElem?_map] at hz
        cases hu : L2[z]? with
        | none => rw [hu] at hz; cases hz
        | some u =>
          rw [hu] at hz; cases hz
          refine ⟨b2, off + i, rfl, ⟨trivial, jE hbx⟩, ?_⟩
          show m.w.cell? _ = _
          rw [cell_of_row _ _ _ _ _ _ hbx, List.getElem?_toArray]; exact hget z u hu
      · rw [List.getElem?_map, hz] at hc
        cases hc
        exact ⟨rfl, rfl⟩
     have hy : a.eval y = .slice (some ⟨b2, off + i, none⟩) L2.length (n - i) := by
      rw [hll]; simpa using w3
     refine zF (R := RK K .u8) hE hR hl2 (bQ a [x, y]) hO1 k3 kE k5 hE2 ho (by rw [aE a [x, y] (by simp), hx]; rfl) (by rw [aE a [x, y] (by simp), hy]; rfl) hb1 fun m' g' cap' l0' ad' hle hS hA hA1 had => ?_
     rw [k4]
     exact Fq (c := .u8) hf (by simpa [k4] using hO) (by simpa [rowOf, jj] using hS) hA hA1 had
   · cases h
 · cases h
theorem Ax (hT : cn P K tt) {t : TypeId} {x y : Operand} (ho : o.op = .makeSlice t x y) (hxy : AK x y = true) {a b : AV S} {n : Int} (hn : idxOf a = some n) {ec : TypeId × Co} (hec : eW tt t = some ec) {ei : TI S} (hei : tt ec.1 = some ei) (h1 : xy ec.2 = true) (hA : dS ei.d = false) {z : T S ec.2} (hz : wh tb ec.2 ei.zero = some z)
 {u : Unit} (hc : dZ (0 ≤ n ∧ n * ei.bytes ≤ 140737488355328) = some u) (h : k { v := .one (.aw (ct + 1)), add := [(ct + 1, .arr ec.1 ec.2 true (List.replicate n.toNat z))] } = some r) : cP P K o [a, b] ob ct k r := by
 have hox : o.op.operands.toList = [x, y] := by rw [ho]; rfl
 obtain ⟨hu, ei', hei', hE, hb⟩ := gX (K := K) hT hec
 rw [hei] at hei'; have e0 := Option.some.inj hei'; subst e0
 have hc := ep hc
 have hty := hT.ty ec.1 ei hei
 rw [nv h1] at hE
 refine ⟨_, h, by simp, fun g ac m Lr Lm hf _ ha hr hm hO => ?_⟩
 simp only [pick, dm] at hr hm
 subst hr; subst hm
 rw [hox] at ha
 obtain ⟨hv, hw⟩ := cR ha
 obtain ⟨kk, hx⟩ := ld hn hv
 have hy : ac.eval y = .int kk n := by
  unfold AK at hxy
  split at hxy
  · have := Nat.eq_of_beq_eq_true hxy; subst this; exact hx
  · simp only [Bool.and_eq_true, decide_eq_true_eq] at hxy
    obtain ⟨rfl, rfl⟩ := hxy; exact hx
  · cases hxy
 have hze := Ec h1 (oD (K := K) (g := g) (m := m) hz (il hty.JD))
 have hzv : zeroOf ei = C5 ec.2 z := by
  unfold zeroOf
  rw [hA, hze]; rfl
 obtain ⟨nn, rfl⟩ : ∃ q : Nat, n = (q : Int) := ⟨n.toNat, by omega⟩
 rw [hzv] at hE
 refine Ga (C5 ec.2) z hE (BC h1 z) (bQ ac [x, y]) (St.refl (Ow.nil m)) ho (by rw [aE ac [x, y] (by simp), hx]) (by rw [aE ac [x, y] (by simp), hy]) rfl (by have := hc.2; rw [← Int.natCast_mul] at this; omega) hb fun m' bb hlt hle hS => ?_
 have hnn : nn ≤ 140737488355328 := by
  have h2 : nn * ei.bytes ≤ 140737488355328 := by have := hc.2; rw [← Int.natCast_mul] at this; omega
  exact Nat.le_trans (Nat.le_mul_of_pos_right nn hb) h2
 have hA := GV (R := RK K ec.2) (enc := C5 ec.2) (JJ h1) m' bb (List.replicate nn z) (by rw [List.length_replicate]; unfold maxLen; omega)
 have hS' := hS.toArr
 rw [Int.toNat_natCast]
 have := v7 (K := K) (c := ec.2) (e := ec.1) (Lm := []) (rm := []) hf hle (by simpa using hS') (by rw [nv h1]; exact hA)
 rw [List.length_replicate] at this
 exact this
theorem ui {a : Act} {g : GG S} {m : Mem} : ∀ {ps : List (Nat × Operand)} {xs : List (AV S)}, lC K g m a (ps.map (·.2)) xs → xs.length = ps.length ∧ ∀ (i : Nat) (p : Nat × Operand) (v : AV S), ps[i]? = some p → xs[i]? = some v → aA K g m v (a.eval p.2)
 | [], xs, h => by simp only [List.map_nil, lC] at h; subst h; exact ⟨rfl, fun i p v hp => by simp at hp⟩
 | p :: ps, xs, h => by
   obtain ⟨v, vs, rfl, h1, h2⟩ := h
   obtain ⟨k1, k2⟩ := ui h2
   refine ⟨by simp [k1], fun i p' v' hp hv => ?_⟩
   cases i with
   | zero => simp at hp hv; subst hp; subst hv; exact h1
   | succ i => exact k2 i p' v' (by simpa using hp) (by simpa using hv)
theorem zf : ∀ {ps : List (Nat × AV S)} {i : Nat}, xd i ps = true → ∀ j p, ps[j]? = some p → p.1 = i + j
 | [], _, _, j, p, h => by simp at h
 | (q, v) :: ps, i, h, j, p, hp => by
   simp only [xd, Bool.and_eq_true] at h
   have h1 := Nat.eq_of_beq_eq_true h.1
   cases j with
   | zero => simp at hp; subst hp; simpa using h1.symm
   | succ j => have := zf h.2 j p (by simpa using hp); omega
theorem Er {c : Co} {g : GG S} {m : Mem} : ∀ {ps : List (Nat × AV S)} {l : List (T S c)} {us : List Value}, FI tb c ps = some l → us.length = ps.length → (∀ (i : Nat) (p : Nat × AV S) (u : Value), ps[i]? = some p → us[i]? = some u → aA K g m p.2 u) → ma (fun x cs => RK K c m x cs) l (us.map fun u => u.cells.toList)
 | [], l, us, h, hl, _ => by simp only [FI, Option.some.injEq] at h; subst h; cases us with | nil => exact .nil | cons _ _ => simp at hl
 | (q, a) :: ps, l, [], _, hl, _ => by simp at hl
 | (q, a) :: ps, l, u :: us, h, hl, hv => by
   simp only [FI] at h
   obtain ⟨ys, hys, h⟩ := Option.bind_eq_some_iff.1 h
   obtain ⟨x, hx, h⟩ := Option.bind_eq_some_iff.1 h
   obtain ⟨l', hl', rfl⟩ := Option.map_eq_some_iff.1 h
   exact .cons (oD hx (mF hys (hv 0 _ _ rfl rfl))) (Er hl' (by simpa using hl) fun i p w hp hw => hv (i + 1) p w (by simpa using hp) (by simpa using hw))
theorem ma.mono {α β : Type} {R R' : α → β → Prop} : ∀ {l : List α} {l' : List β}, ma R l l' → (∀ x y, R x y → R' x y) → ma R' l l'
 | _, _, .nil, _ => .nil
 | _, _, .cons h1 h2, h => .cons (h _ _ h1) (ma.mono h2 h)
theorem ma.get {α β : Type} {R : α → β → Prop} : ∀ {l : List α} {l' : List β}, ma R l l' → ∀ (i : Nat) (x : α) (y : β), l[i]? = some x → l'[i]? = some y → R x y
 | _, _, .nil, i, x, y, h, _ => by simp at h
 | _, _, .cons h1 h2, i, x, y, hx, hy => by
   cases i with
   | zero => simp at hx hy; subst hx; subst hy; exact h1
   | succ i => exact ma.get h2 i x y (by simpa using hx) (by simpa using hy)
theorem AZ {α β : Type} : ∀ {l : List α} {l' : List β} (i : Nat) (p : α × β), (l.zip l')[i]? = some p → l[i]? = some p.1 ∧ l'[i]? = some p.2
 | [], _, i, p, h => by simp at h
 | _ :: _, [], i, p, h => by simp at h
 | a :: l, b :: l', i, p, h => by
   cases i with
   | zero => simp at h; subst h; exact ⟨rfl, rfl⟩
   | succ i => simpa using AZ i p (by simpa using h)
theorem vP {α β : Type} (f : α → List β) (l : List α) : l.flatMap f = (l.map f).flatten := by induction l with | nil => rfl | cons a l ih => simp [ih]
theorem Kz (hT : cn P K tt) {t : TypeId} {ec : TypeId × Co} (hec : eW tt t = some ec) {ei : TI S} (hei : tt ec.1 = some ei) {len : Nat} {parts : Array (Nat × Operand)} (ho : o.op = .buildSlice t len parts) {a : Act} {w : World} (hlen : len = parts.size) (hix : ∀ (i : Nat) (p : Nat × Operand), parts[i]? = some p → p.1 = i) (hs : len * ei.size ≤ 16777216)
 (hsz : ∀ u ∈ parts.toList.map (fun p => a.eval p.2), u.cells.size = ei.size) :
 (execOp a.eval o).run P w = .ok (.value (.slice (some ⟨w.heap.size, 0, none⟩) len len)) (w.alloc (.cells ((parts.toList.map fun p => a.eval p.2).flatMap fun u => u.cells.toList).toArray ec.1)) := by
 obtain ⟨hu, ei', hei', hE, hb⟩ := gX (K := K) hT hec
 rw [hei] at hei'; have e0 := Option.some.inj hei'; subst e0
 obtain ⟨inf, i1, i2, i3, i4⟩ := info_parts (hT.ty ec.1 ei hei).info
 have hpos : 0 < ei.size := by have := hE.pos; obtain ⟨_, j1, _, j3, _⟩ := info_parts hE.info; rw [i1] at j1; cases j1; omega
 have hzs := hE.zs
 have hparts : (parts.map fun (x : Nat × Operand) => (x.1, a.eval x.2)).toList = ((parts.toList.map fun p => a.eval p.2).zipIdx 0).map fun x => (x.2, x.1) := by
  refine List.ext_getElem? fun i => ?_
  simp only [Array.toList_map, List.getElem?_map, List.getElem?_zipIdx, Array.getElem?_toList, Option.map_map]
  cases hp : parts[i]? with
  | none => rfl
  | some p => simp [hix i p hp]
 by_cases h0 : len = 0
 · subst h0
   have hp0 : parts = #[] := by
    have : parts.size = 0 := hlen.symm
    exact Array.eq_empty_of_size_eq_zero this
   subst hp0
   simp [execOp, ho, Instr.buildSlice, run_underlying hu, sizeOf, typeInfo, i1, newRow, Instr.fill, newObj, Sem.run]
   rw [show (Array.map (fun (_ : Nat) => (default : Value)) (Array.range 0)) = #[] by simp]
 · have hmul : ¬ len * inf.size = 0 := by rw [i3]; exact Nat.mul_ne_zero h0 (by omega)
   have hrun := run_buildSlice (P := P) w t ec.1 len (parts.map fun (x : Nat × Operand) => (x.1, a.eval x.2)) ((parts.toList.map fun p => a.eval p.2).flatMap fun u => u.cells.toList).toArray inf (zeroOf ei) hu i1 i2 (by rw [i3]; omega) hmul (by
    rw [hparts, i3]
    refine Great.fill_whole hpos _ _ hsz ?_
    simp [hlen])
   simp only [execOp, ho, Sem.run_bind, hrun, Result.andThen_ok, Sem.run_pure]
theorem wi {cells : Array Value} {e : TypeId} : ∃ m' : Mem, m'.w = m.w.alloc (.cells cells e) ∧ Le m m' ∧ St [] m m' [.row (some m.w.heap.size) e cells.size cells.size] ∧ At m' m.w.heap.size 0 cells.toList := by
 let X : Nat → Nat → Prop := fun b o => b = m.w.heap.size ∧ o < cells.size
 have h1 := (St.refl (Ow.nil m)).uF cells e
 have h2 := h1.oq (e' := .row (some m.w.heap.size) e cells.size cells.size) X (fun b o h => by simp [az.box, h.1]) (fun b hb => by cases hb; exact ⟨cells, cI _ _, rfl⟩) (fun b hb => by simpa [az.box, az.row] using hb) (by simp [az.row])
  (fun b hb o ho => ⟨trivial, fun hx => by have h1 : cells.size ≤ o := ho; have h2 := hx.2; omega⟩)
 refine ⟨_, rfl, h2.le, by simpa using h2, fun k v hv => ⟨⟨.inr ⟨rfl, ?_⟩, by simp [Mem.oq]⟩, ?_⟩⟩
 · have := (List.getElem?_eq_some_iff.1 hv).1; simpa using this
 · show (m.w.alloc _).cell? _ = _
   rw [cell_of_row _ _ _ _ _ _ (cI _ _), Nat.zero_add]; simpa using hv
theorem yE (hT : cn P K tt) {t : TypeId} {len : Nat} {parts : Array (Nat × Operand)} (ho : o.op = .buildSlice t len parts) {ec : TypeId × Co} (hec : eW tt t = some ec) {ei : TI S} (hei : tt ec.1 = some ei)
 (h : (match Nat.beq len xs.length && xd 0 ((parts.toList.map Prod.fst).zip xs) && Nat.ble (len * ei.size) 16777216 with
  | true => (FI tb ec.2 ((parts.toList.map Prod.fst).zip xs)).bind fun l => match has t fa.lits || (Nat.beq len 0 && has t fa.CO) with
    | true => k { v := .one (.aw (ct + 1)), add := [(ct + 1, .arr ec.1 ec.2 true l)] }
    | false => k { v := .one (.rw (ct + 1) ec.2 l), add := [(ct + 1, .row ec.1 ec.2)] }
  | false => none) = some r) : cP P K o xs ob ct k r := by
 have hox : o.op.operands.toList = parts.toList.map (·.2) := by rw [ho]; simp [Op.operands]
 split at h
 · rename_i hc
   simp only [Bool.and_eq_true] at hc
   obtain ⟨⟨c1, c2⟩, c3⟩ := hc
   have c1 := Nat.eq_of_beq_eq_true c1
   have c3 := Nat.le_of_ble_eq_true c3
   obtain ⟨l, hl, h'⟩ := Option.bind_eq_some_iff.1 h
   clear h; have h := h'; clear h'
   obtain ⟨hu, ei', hei', hE, hb⟩ := gX (K := K) hT hec
   rw [hei] at hei'; have e0 := Option.some.inj hei'; subst e0
   have hsize : zK K ec.2 = ei.size := by
    obtain ⟨inf, i1, i2, i3, i4⟩ := info_parts (hT.ty ec.1 ei hei).info
    obtain ⟨_, j1, _, j3, _⟩ := info_parts hE.info; rw [i1] at j1; cases j1; omega
   have key : ∀ (g : GG S) (a : Act) (m : Mem), lC K g m a o.op.operands.toList xs → ∃ css : List (List Value), ma (fun x cs => RK K ec.2 m x cs) l css ∧ css.length = len ∧ (execOp a.eval o).run P m.w = .ok (.value (.slice (some ⟨m.w.heap.size, 0, none⟩) len len)) (m.w.alloc (.cells css.flatten.toArray ec.1)) := fun g a m ha => by
    rw [hox] at ha
    obtain ⟨e1, e2⟩ := ui (ps := parts.toList) ha
    have hzl : ((parts.toList.map Prod.fst).zip xs).length = parts.size := by simp [e1]
    have hl2 := Er (K := K) (g := g) (m := m) (us := parts.toList.map fun p => a.eval p.2) hl (by rw [hzl]; simp) (fun i p u hp hu => by
     obtain ⟨z1, z2⟩ := AZ i p hp
     rw [List.getElem?_map] at hu
     cases hq : parts.toList[i]? with
     | none => rw [hq] at hu; cases hu
     | some q => rw [hq] at hu; cases hu; exact e2 i q p.2 hq z2)
    refine ⟨_, hl2, by simp only [List.length_map, Array.length_toList]; rw [c1, e1]; simp, ?_⟩
    rw [← vP (fun u : Value => u.cells.toList)]
    refine Kz hT hec hei ho (by rw [c1, e1]; simp) (fun i p hp => ?_) c3 (fun u hu => ?_)
    · have hi : i < parts.toList.length := by have := (Array.getElem?_eq_some_iff.1 hp).1; simpa using this
      have hz : ((parts.toList.map Prod.fst).zip xs)[i]? = some (p.1, xs[i]'(by rw [e1]; exact hi)) := by
       rw [List.getElem?_zip_eq_some]
       exact ⟨by rw [List.getElem?_map, Array.getElem?_toList, hp]; rfl, by simp⟩
      have := zf c2 i _ hz
      simpa using this
    · obtain ⟨i, hi⟩ := List.getElem?_of_mem hu
      have hil := (List.getElem?_eq_some_iff.1 hi).1
      have hl3 := hl2.len
      have hil2 : i < l.length := by rw [hl3]; simpa using hil
      have := ma.get hl2 i l[i] u.cells.toList (by simp) (by rw [List.getElem?_map, hi]; rfl)
      have := (bj K ec.2).size this
      rw [hsize] at this; simpa using this
   have hmax : ∀ (css : List (List Value)) {m : Mem}, ma (fun x cs => RK K ec.2 m x cs) l css → css.length = len → l.length = len ∧ len ≤ maxLen ∧ css.flatten.toArray.size = l.length * zK K ec.2 := fun css m h2 hl => by
    have h3 := h2.len
    have hp : 0 < ei.size := by rw [← hsize]; exact (bj K ec.2).pos
    have : len ≤ 16777216 := Nat.le_trans (Nat.le_mul_of_pos_right len hp) c3
    refine ⟨by omega, by unfold maxLen; omega, ?_⟩
    rw [List.size_toArray, db (zK K ec.2) css (fun i c hc => by
     have hil := (List.getElem?_eq_some_iff.1 hc).1
     exact (bj K ec.2).size (ma.get h2 i (l[i]'(by omega)) c (by simp) hc)), h3]
   split at h
   · refine ⟨_, h, by simp, fun g a m Lr Lm hf _ ha hr hm hO => ?_⟩
     simp only [pick, dm] at hr hm
     subst hr; subst hm
     obtain ⟨css, k1, k2, k3⟩ := key g a m ha
     obtain ⟨k4, k5, k6⟩ := hmax css k1 k2
     have hS := ((St.refl (Ow.nil m)).uF css.flatten.toArray ec.1).toArr
     unfold ab
     rw [k3]
     have hle : Le m ⟨m.w.alloc (.cells css.flatten.toArray ec.1 (0, 0)), m.ok⟩ := hS.le
     have hA : qL (RK K ec.2) ⟨m.w.alloc (.cells css.flatten.toArray ec.1 (0, 0)), m.ok⟩ (zK K ec.2) (some m.w.heap.size) css.flatten.toArray len l :=
      ⟨⟨css, by omega, fun i x c hx hc => ⟨(bj K ec.2).size (ma.get k1 i x c hx hc), (bj K ec.2).mono (ma.get k1 i x c hx hc) hle⟩, by omega, k5, (fun e => by cases e), fun _ => ⟨_, 0, rfl, rfl, fun j v hv => by rw [Nat.zero_add]; simpa using hv⟩⟩, fun b _ => by rw [k6, k4]⟩
     have := v7 (K := K) (c := ec.2) (e := ec.1) (Lm := []) (rm := []) hf hle (by simpa using hS) hA
     rw [k4] at this
     exact this
   · refine ⟨_, h, by simp, fun g a m Lr Lm hf _ ha hr hm hO => ?_⟩
     simp only [pick, dm] at hr hm
     subst hr; subst hm
     obtain ⟨css, k1, k2, k3⟩ := key g a m ha
     obtain ⟨k4, k5, k6⟩ := hmax css k1 k2
     obtain ⟨m', e1, hle, hS, hA⟩ := wi (m := m) (cells := css.flatten.toArray) (e := ec.1)
     unfold ab
     rw [k3, ← e1]
     have hE := JI (cap := len) (bj K ec.2) css (cs := css.flatten) (by simpa using hA) rfl k5 (ma.mono k1 fun x c h => (bj K ec.2).mono h hle) k4
     have := D9 (K := K) (c := ec.2) (e := ec.1) (Lm := []) (rm := []) (g' := some m.w.heap.size) (cap := len) (l := l) hf hle (by rw [k6] at hS; simpa [rowOf, k4] using hS) hE
     rw [k4] at this
     exact this
 · cases h
end E
end Go.Proofs.YtekpafdhgkocaaaGreat
