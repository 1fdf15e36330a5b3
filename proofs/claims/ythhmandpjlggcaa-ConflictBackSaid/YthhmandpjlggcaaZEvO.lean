/- Part of what the laws need: plain words, the walker and its laws, the program's functions. -/
import Derived.Test.YthhmandpjlggcaaZEvR
namespace Go.Proofs.Ythhmandpjlggcaa
open Go.RowKit G
namespace E
variable {S : Nat → Type}
def undFs (P : Program) : List Field → Option (List (TypeId × Nat × Nat))
  | [] => some []
  | f :: l => match P.info? f.type, undFs P l with
    | some i, some r => some ((f.type, f.offset, i.size) :: r)
    | _, _ => none
def undS (P : Program) (t : TypeId) : Option (List (TypeId × Nat × Nat)) := match P.underlying t with
  | some (.struct fields) => undFs P fields.toList
  | _ => none
theorem undFs_get {P : Program} : ∀ {l : List Field} {fs : List (TypeId × Nat × Nat)} {i : Nat} {f : TypeId × Nat × Nat}, undFs P l = some fs → fs[i]? = some f → ∃ fl inf, l[i]? = some fl ∧ fl.type = f.1 ∧ fl.offset = f.2.1 ∧ P.info? f.1 = some inf ∧ inf.size = f.2.2
  | [], fs, i, f, h, hf => by simp only [undFs, Option.some.injEq] at h; subst h; simp at hf
  | x :: l, fs, i, f, h, hf => by
    unfold undFs at h
    split at h
    · rename_i inf r h1 h2
      cases h
      cases i with
      | zero => simp at hf; subst hf; exact ⟨x, inf, rfl, rfl, rfl, h1, rfl⟩
      | succ i => simpa using undFs_get h2 (by simpa using hf)
    · cases h
theorem undS_get {P : Program} {t : TypeId} {fs : List (TypeId × Nat × Nat)} (h : undS P t = some fs) : ∃ fields, P.underlying t = some (.struct fields) ∧ undFs P fields.toList = some fs := by
  unfold undS at h
  split at h
  · rename_i fields hu; exact ⟨fields, hu, h⟩
  · cases h
def isFuncD : TypeDesc → Bool
  | .func _ _ _ => true
  | _ => false
def tdR (P : Program) (t : TypeId) : TD → Prop
  | .int k => P.underlying t = some (.int k)
  | .bool => P.underlying t = some .bool
  | .str => P.underlying t = some .string
  | .ptr e => P.underlying t = some (.pointer e)
  | .slice e => P.underlying t = some (.slice e)
  | .array n e => P.underlying t = some (.array n e)
  | .struct fs => undS P t = some fs
  | .map k v => P.underlying t = some (.map k v)
  | .func => (P.underlying t).map isFuncD = some true
  | .iface => (P.underlying t).map isAggD = some false
def isC : CV S → Bool
  | .int _ _ => true
  | .u8 _ => true
  | .tt _ => true
  | .str _ => true
  | .nilS => true
  | .nilP => true
  | .nilF => true
  | .nilM => true
  | .nilI => true
  | .a8 _ _ => true
  | .ai _ _ _ => true
  | _ => false
def zeroOf (i : TI S) : Value := match isAggT i.d with
  | true => .agg (zeroVs i.zero).toArray
  | false => (zeroVs i.zero).headD undef
structure TyOK (P : Program) (t : TypeId) (i : TI S) : Prop where
  td : tdR P t i.d
  info : (P.info? t).map (fun x => (x.zero, x.size, x.bytes)) = some (some (zeroOf i), i.size, i.bytes)
  cst : i.zero.all isC = true
  len : (zeroVs i.zero).length = i.size
  one : isAggT i.d = false → i.size = 1
variable {tb : Tb S}
structure EqT (K : TbOK tb) (P : Program) (t : TypeId) (z : List (CV S)) : Prop where
  guard : P.eqGuardType P.depth t = false
  eql : ∀ (g : GG S) (m : Mem) (vs ws : List (CV S)) (p : PSigma fun p : Prop => Decidable p) (xs ys : List Value) (w : World), kindOk z vs = true → kindOk z ws = true → eqCs vs ws = some p → cvsR K g m vs xs → cvsR K g m ws ys → (binOp .eql t (.agg xs.toArray) (.agg ys.toArray)).run P w = .ok (.bool (@decide p.1 p.2)) w
structure TTOK (P : Program) (K : TbOK tb) (tt : TypeId → Option (TI S)) : Prop where
  eq : ∀ t i, tt t = some i → i.eq = true → EqT K P t i.zero
  ty : ∀ t i, tt t = some i → TyOK P t i
  el : ∀ t i e c, tt t = some i → i.d = .slice e → i.co = .sl c → ∃ ei, tt e = some ei ∧ ei.size = zK K c ∧ 0 < ei.bytes
  mp : ∀ t i kt et kc vc, tt t = some i → i.d = .map kt et → i.co = .mp kc vc → keyCo tb kc = true → KeyOK P kt (fun x v => ∃ m, keyR K kc m x v) (keq tb kc)
variable {K : TbOK tb} {g : GG S} {m : Mem}
theorem cvR_zero1 : ∀ {v : CV S}, isC v = true → cvR K g m v (zeroV1 v)
  | .int _ _, _ | .u8 _, _ | .tt _, _ | .str _, _ | .nilS, _ | .nilP, _ | .nilF, _ | .nilM, _ | .nilI, _ | .a8 _ _, _ | .ai _ _ _, _ => by simp only [cvR, zeroV1]
theorem cvsR_zero : ∀ {vs : List (CV S)}, vs.all isC = true → cvsR K g m vs (zeroVs vs)
  | [], _ => rfl
  | v :: vs, h => by
    simp only [List.all_cons, Bool.and_eq_true] at h
    exact ⟨zeroV1 v, zeroVs vs, by simp [zeroVs], cvR_zero1 h.1, cvsR_zero h.2⟩
theorem cvR.len : ∀ {v : CV S} {cs : List Value}, cvR K g m v cs → cs.length = v.n
  | .int _ _, _, h | .u8 _, _, h | .bo _ _ _ _, _, h | .tt _, _, h | .str _, _, h | .nilS, _, h | .nilP, _, h | .nilF, _, h | .nilM, _, h | .nilI, _, h => by simp only [cvR] at h; rw [h]; rfl
  | .a8 _ _, _, h | .ai _ _ _, _, h => by simp only [cvR] at h; rw [h]; simp [CV.n]
  | .sl c l, _, h => by simp only [cvR] at h; obtain ⟨a, c, h, _⟩ := h; rw [h]; rfl
  | .slF c l, _, h => by simp only [cvR] at h; obtain ⟨a, h, _⟩ := h; rw [h]; rfl
  | .rw o c l, _, h => by simp only [cvR] at h; obtain ⟨gh, l0, ad, _, h, _⟩ := h; rw [h]; rfl
  | .aw o, _, h => by simp only [cvR] at h; obtain ⟨gh, _, h⟩ := h; rw [h]; rfl
  | .ptr o off, _, h => by simp only [cvR] at h; obtain ⟨gh, b, _, _, h⟩ := h; rw [h]; rfl
  | .yl o, _, h => by simp only [cvR] at h; obtain ⟨gh, b, _, _, h⟩ := h; rw [h]; rfl
  | .mp o, _, h => by simp only [cvR] at h; obtain ⟨gh, b, _, _, h⟩ := h; rw [h]; rfl
  | .stp o _, _, h => by simp only [cvR] at h; obtain ⟨gh, _, h⟩ := h; rw [h]; rfl
  | .rz o _ _, _, h => by simp only [cvR] at h; obtain ⟨gh, b, _, _, h, _⟩ := h; rw [h]; rfl
  | .pt o _ _ _, _, h => by simp only [cvR] at h; obtain ⟨gh, _, h, _⟩ := h; rw [h]; rfl
  | .na _ _, _, h => by simp only [cvR] at h; obtain ⟨b, h, _⟩ := h; rw [h]; rfl
  | .el c x off, _, h => by simp only [cvR] at h; obtain ⟨b, p, ecs, h, _⟩ := h; rw [h]; rfl
  | .ela o v c x j off, _, h => by simp only [cvR] at h; obtain ⟨gh, b, p, e, f, l, en, _, _, h, _⟩ := h; rw [h]; rfl
  | .elx o off n i, _, h => by simp only [cvR] at h; obtain ⟨gh, b, _, _, h, _⟩ := h; rw [h]; rfl
  | .px o off n i j, _, h => by simp only [cvR] at h; obtain ⟨gh, b, _, _, h, _⟩ := h; rw [h]; rfl
  | .fn f xs ys, _, h => by simp only [cvR] at h; obtain ⟨v1, v2, h, _⟩ := h; rw [h]; rfl
theorem cv_one : ∀ {v : CV S} {cs : List Value}, cvR K g m v cs → ∀ u ∈ cs, u.oneCell' = true
  | .int _ _, _, h | .u8 _, _, h | .bo _ _ _ _, _, h | .tt _, _, h | .str _, _, h | .nilS, _, h | .nilP, _, h | .nilF, _, h | .nilM, _, h | .nilI, _, h => by simp only [cvR] at h; subst h; intro u hu; simp at hu; subst hu; rfl
  | .a8 _ _, _, h | .ai _ _ _, _, h => by simp only [cvR] at h; subst h; intro u hu; simp at hu; obtain ⟨_, _, rfl⟩ := hu; rfl
  | .sl c l, _, h => by simp only [cvR] at h; obtain ⟨a, c, h, _⟩ := h; subst h; intro u hu; simp at hu; subst hu; rfl
  | .slF c l, _, h => by simp only [cvR] at h; obtain ⟨a, h, _⟩ := h; subst h; intro u hu; simp at hu; subst hu; rfl
  | .rw o c l, _, h => by simp only [cvR] at h; obtain ⟨gh, l0, ad, _, h, _⟩ := h; subst h; intro u hu; simp at hu; subst hu; rfl
  | .aw o, _, h => by simp only [cvR] at h; obtain ⟨gh, _, h⟩ := h; subst h; intro u hu; simp at hu; subst hu; rfl
  | .ptr o off, _, h => by simp only [cvR] at h; obtain ⟨gh, b, _, _, h⟩ := h; subst h; intro u hu; simp at hu; subst hu; rfl
  | .yl o, _, h => by simp only [cvR] at h; obtain ⟨gh, b, _, _, h⟩ := h; subst h; intro u hu; simp at hu; subst hu; rfl
  | .mp o, _, h => by simp only [cvR] at h; obtain ⟨gh, b, _, _, h⟩ := h; subst h; intro u hu; simp at hu; subst hu; rfl
  | .stp o _, _, h => by simp only [cvR] at h; obtain ⟨gh, _, h⟩ := h; subst h; intro u hu; simp at hu; subst hu; rfl
  | .rz o _ _, _, h => by simp only [cvR] at h; obtain ⟨gh, b, _, _, h, _⟩ := h; subst h; intro u hu; simp at hu; subst hu; rfl
  | .pt o _ _ _, _, h => by simp only [cvR] at h; obtain ⟨gh, _, h, _⟩ := h; subst h; intro u hu; simp at hu; subst hu; rfl
  | .na _ _, _, h => by simp only [cvR] at h; obtain ⟨b, h, _⟩ := h; subst h; intro u hu; simp at hu; subst hu; rfl
  | .el c x off, _, h => by simp only [cvR] at h; obtain ⟨b, p, ecs, h, _⟩ := h; subst h; intro u hu; simp at hu; subst hu; rfl
  | .ela o v c x j off, _, h => by simp only [cvR] at h; obtain ⟨gh, b, p, e, f, l, en, _, _, h, _⟩ := h; subst h; intro u hu; simp at hu; subst hu; rfl
  | .elx o off n i, _, h => by simp only [cvR] at h; obtain ⟨gh, b, _, _, h, _⟩ := h; subst h; intro u hu; simp at hu; subst hu; rfl
  | .px o off n i j, _, h => by simp only [cvR] at h; obtain ⟨gh, b, _, _, h, _⟩ := h; subst h; intro u hu; simp at hu; subst hu; rfl
  | .fn f xs ys, _, h => by simp only [cvR] at h; obtain ⟨v1, v2, h, _⟩ := h; subst h; intro u hu; simp at hu; subst hu; rfl
theorem cvs_one : ∀ {vs : List (CV S)} {cs : List Value}, cvsR K g m vs cs → ∀ u ∈ cs, u.oneCell' = true
  | [], _, h => by simp only [cvsR] at h; subst h; intro u hu; cases hu
  | v :: vs, _, ⟨c1, c2, rfl, h1, h2⟩ => fun u hu => by
    rcases List.mem_append.1 hu with hu | hu
    · exact cv_one h1 u hu
    · exact cvs_one h2 u hu
theorem cvs_len : ∀ {vs : List (CV S)} {cs : List Value}, cvsR K g m vs cs → cs.length = sizeCs vs
  | [], _, h => by simp only [cvsR] at h; subst h; rfl
  | v :: vs, _, ⟨c1, c2, rfl, h1, h2⟩ => by rw [List.length_append, h1.len, cvs_len h2]; simp [sizeCs]
theorem cvsR_append : ∀ {vs ws : List (CV S)} {c1 c2 : List Value}, cvsR K g m vs c1 → cvsR K g m ws c2 → cvsR K g m (vs ++ ws) (c1 ++ c2)
  | [], _, _, _, h, k => by simp only [cvsR] at h; subst h; exact k
  | v :: vs, _, _, _, ⟨d1, d2, rfl, h1, h2⟩, k => ⟨d1, d2 ++ _, by rw [List.append_assoc], h1, cvsR_append h2 k⟩
theorem cvsR_one {v : CV S} {cs : List Value} (h : cvsR K g m [v] cs) : cvR K g m v cs := by
  obtain ⟨c1, c2, rfl, h1, h2⟩ := h; simp only [cvsR] at h2; subst h2; simpa using h1
theorem cvsR_of {v : CV S} {cs : List Value} (h : cvR K g m v cs) : cvsR K g m [v] cs := ⟨cs, [], by simp, h, rfl⟩
theorem cutAt_ok : ∀ {o : Nat} {vs ws : List (CV S)} {cs : List Value}, cutAt o vs = some ws → cvsR K g m vs cs → cvsR K g m ws (cs.drop o) ∧ o ≤ cs.length
  | 0, vs, _, cs, h, k => by simp only [cutAt, Option.some.injEq] at h; subst h; simpa using k
  | o + 1, [], _, _, h, _ => by simp [cutAt] at h
  | o + 1, v :: vs, ws, _, h, ⟨c1, c2, rfl, h1, h2⟩ => by
    unfold cutAt at h
    split at h
    · rename_i hle
      have hle := Nat.le_of_ble_eq_true hle
      obtain ⟨k1, k2⟩ := cutAt_ok h h2
      have := h1.len
      refine ⟨?_, by rw [List.length_append]; omega⟩
      rw [List.drop_append, List.drop_of_length_le (by omega), List.nil_append, this]; exact k1
    · cases h
termination_by _ vs => vs.length
theorem cutTo_ok : ∀ {n : Nat} {vs ws : List (CV S)} {cs : List Value}, cutTo n vs = some ws → cvsR K g m vs cs → cvsR K g m ws (cs.take n) ∧ n ≤ cs.length
  | 0, vs, _, cs, h, k => by simp only [cutTo, Option.some.injEq] at h; subst h; simp [cvsR]
  | n + 1, [], _, _, h, _ => by simp [cutTo] at h
  | n + 1, v :: vs, ws, _, h, ⟨c1, c2, rfl, h1, h2⟩ => by
    unfold cutTo at h
    split at h
    · rename_i hle
      have hle := Nat.le_of_ble_eq_true hle
      obtain ⟨ws', hw, rfl⟩ := Option.map_eq_some_iff.1 h
      obtain ⟨k1, k2⟩ := cutTo_ok hw h2
      have := h1.len
      refine ⟨⟨c1, c2.take (n + 1 - v.n), ?_, h1, k1⟩, by rw [List.length_append]; omega⟩
      rw [List.take_append, List.take_of_length_le (by omega), this]
    · cases h
termination_by _ vs => vs.length
theorem cell1_ok : ∀ {o : Nat} {vs : List (CV S)} {v : CV S} {cs : List Value}, cell1 o vs = some v → cvsR K g m vs cs → ∃ x, cs[o]? = some x ∧ cvR K g m v [x]
  | _, [], _, _, h, _ => by simp [cell1] at h
  | o, w :: vs, v, _, h, ⟨c1, c2, rfl, h1, h2⟩ => by
    have hl := h1.len
    unfold cell1 at h
    split at h
    · rename_i hle
      have hle := Nat.le_of_ble_eq_true hle
      obtain ⟨x, k1, k2⟩ := cell1_ok h h2
      exact ⟨x, by rw [List.getElem?_append_right (by omega), hl]; exact k1, k2⟩
    · rename_i hle
      have hlt : o < w.n := Nat.lt_of_not_le fun h' => by rw [Nat.ble_eq_true_of_le h'] at hle; cases hle
      rw [List.getElem?_append_left (by omega)]
      split at h
      · cases h; simp only [cvR] at h1; subst h1
        simp only [CV.n] at hlt
        exact ⟨_, by simp [hlt]; rfl, by simp only [cvR]⟩
      · cases h; simp only [cvR] at h1; subst h1
        simp only [CV.n] at hlt
        exact ⟨_, by simp [hlt]; rfl, by simp only [cvR]⟩
      · rename_i hne1 hne2
        cases h
        have hn : w.n = 1 := by cases w <;> first | rfl | exact absurd rfl (hne1 _ _) | exact absurd rfl (hne2 _ _ _)
        rw [hn] at hl hlt
        obtain rfl : o = 0 := by omega
        match c1, hl with
        | [x], _ => exact ⟨x, rfl, h1⟩
theorem putC_ok {o n : Nat} {xs vs ws : List (CV S)} {cs ds : List Value} (h : putC o n xs vs = some ws) (hx : cvsR K g m xs ds) (hn : ds.length = n) (hv : cvsR K g m vs cs) : cvsR K g m ws (cs.take o ++ ds ++ cs.drop (o + n)) ∧ o + n ≤ cs.length := by
  unfold putC at h
  obtain ⟨a, ha, h⟩ := Option.bind_eq_some_iff.1 h
  obtain ⟨b, hb, rfl⟩ := Option.map_eq_some_iff.1 h
  obtain ⟨k1, _⟩ := cutTo_ok ha hv
  obtain ⟨k2, k3⟩ := cutAt_ok hb hv
  refine ⟨?_, k3⟩
  rw [List.append_assoc]
  exact cvsR_append k1 (cvsR_append hx k2)
theorem setArr_map {α : Type} (n : Nat) (f : Nat → α) (o : Nat) (y : α) (mk : α → Value) (h : o < n) : (List.range n).map (fun i => mk (setArr f o y i)) = ((List.range n).map fun i => mk (f i)).set o (mk y) := by
  refine List.ext_getElem (by simp) fun i h1 h2 => ?_
  simp only [List.getElem_map, List.getElem_range, List.getElem_set, setArr]
  by_cases e : o = i
  · subst e; simp
  · rw [if_neg (by omega), if_neg e]
theorem set_take_drop {α : Type} (l : List α) (o : Nat) (x : α) (h : o < l.length) : l.set o x = l.take o ++ [x] ++ l.drop (o + 1) := by
  rw [List.set_eq_take_append_cons_drop, if_pos h]; simp
theorem put1_ok : ∀ {o : Nat} {x : CV S} {vs ws : List (CV S)} {cs : List Value} {u : Value}, put1 o x vs = some ws → cvR K g m x [u] → cvsR K g m vs cs → cvsR K g m ws (cs.set o u) ∧ o < cs.length
  | _, _, [], _, _, _, h, _, _ => by simp [put1] at h
  | o, x, w :: vs, ws, _, u, h, hx, ⟨c1, c2, rfl, h1, h2⟩ => by
    have hl := h1.len
    unfold put1 at h
    split at h
    · rename_i hle
      have hle := Nat.le_of_ble_eq_true hle
      obtain ⟨ws', hw, rfl⟩ := Option.map_eq_some_iff.1 h
      obtain ⟨k1, k2⟩ := put1_ok hw hx h2
      refine ⟨⟨c1, c2.set (o - w.n) u, ?_, h1, k1⟩, by rw [List.length_append]; omega⟩
      rw [List.set_append_right _ _ (by omega), hl]
    · rename_i hle
      have hlt : o < w.n := Nat.lt_of_not_le fun h' => by rw [Nat.ble_eq_true_of_le h'] at hle; cases hle
      refine ⟨?_, by rw [List.length_append]; omega⟩
      rw [List.set_append_left _ _ (by omega)]
      split at h
      · cases h; simp only [cvR] at h1; subst h1
        simp only [CV.n] at hlt
        refine ⟨_, c2, rfl, ?_, h2⟩
        simp only [cvR] at hx ⊢
        rw [setArr_map _ _ _ _ (fun y : UInt8 => Value.int .u8 (y.toNat : Int)) hlt]
        congr 1; simpa using hx
      · split at h
        · rename_i hk _
          cases h; simp only [cvR] at h1; subst h1
          simp only [CV.n] at hlt
          refine ⟨_, c2, rfl, ?_, h2⟩
          simp only [cvR] at hx ⊢
          subst hk
          rw [setArr_map _ _ _ _ (fun y : Int => Value.int _ y) hlt]
          congr 1; simpa using hx
        · cases h
      · cases h
      · cases h
      · rename_i hne1 hne2 _ _
        cases h
        have hn : w.n = 1 := by cases w <;> first | rfl | exact absurd rfl (hne1 _ _) | exact absurd rfl (hne2 _ _ _)
        rw [hn] at hl hlt
        obtain rfl : o = 0 := by omega
        match c1, hl with
        | [y], _ => exact ⟨[u], c2, by simp, hx, h2⟩
theorem castL_ok {c d : Co} (h : c = d) {l : List (T S c)} {m : Mem} {a : Option Addr} {n : Nat} (k : Els (RK K c) m (zK K c) a n l) : Els (RK K d) m (zK K d) a n (castL h l) := by subst h; exact k
theorem castL_len {c d : Co} (h : c = d) (l : List (T S c)) : (castL h l).length = l.length := by subst h; rfl
theorem ofCV_ok : ∀ {c : Co} {v : CV S} {x : T S c} {cs : List Value}, ofCV c v = some x → cvR K g m v cs → RK K c m x cs := by
  intro c v x cs h hv
  unfold ofCV at h
  split at h
  · split at h
    · rename_i hk _
      cases h; subst hk; simp only [cvR] at hv; exact hv
    · cases h
  · cases h; simp only [cvR] at hv; exact hv
  · cases h; simp only [cvR] at hv; exact hv
  · cases h; simp only [cvR] at hv; exact hv
  · cases h; simp only [cvR] at hv; exact hv
  · split at h
    · rename_i hk _
      cases h; simp only [cvR] at hv; obtain ⟨a, n, h1, h2⟩ := hv
      exact ⟨a, n, by rw [castL_len]; exact h1, castL_ok hk h2⟩
    · cases h
  · split at h
    · rename_i hk _
      cases h; simp only [cvR] at hv; obtain ⟨a, h1, h2⟩ := hv
      exact ⟨a, _, by rw [castL_len]; exact h1, castL_ok hk h2⟩
    · cases h
  · split at h
    · rename_i hk _
      cases h; simp only [cvR] at hv; obtain ⟨gh, l0, ad, h0, h1, h2, h3⟩ := hv
      exact ⟨_, _, by rw [castL_len]; exact h1, castL_ok hk h2⟩
    · cases h
  · cases h; simp only [cvR] at hv; exact ⟨none, 0, hv, Els.nil _ _⟩
  · split at h
    · rename_i hk
      simp only [Bool.and_eq_true] at hk
      have h1 := Nat.eq_of_beq_eq_true hk.1; have h2 := Nat.le_of_ble_eq_true hk.2
      cases h; subst h1; simp only [cvR] at hv; exact ⟨hv, h2⟩
    · cases h
  · split at h
    · rename_i hk2 hk _
      simp only [Bool.and_eq_true] at hk
      have h1 := Nat.eq_of_beq_eq_true hk.1; have h2 := Nat.le_of_ble_eq_true hk.2
      cases h; subst h1; subst hk2; simp only [cvR] at hv; exact ⟨hv, h2⟩
    · cases h
  · cases h
theorem toCV_ok : ∀ {c : Co} {x : T S c} {cs : List Value}, noSt c = true → RK K c m x cs → cvR K g m (toCV c x) cs
  | .int k, x, cs, _, h => by simp only [toCV, cvR]; exact h
  | .u8, x, cs, _, h => by simp only [toCV, cvR]; exact h
  | .bo, x, cs, _, h => by simp only [toCV, cvR]; exact h
  | .str, x, cs, _, h => by simp only [toCV, cvR]; exact h
  | .sl c, x, cs, _, h => by simp only [toCV, cvR]; exact h
  | .st _, _, _, h, _ => by cases h
  | .a8 n, x, cs, _, h => by simp only [toCV, cvR]; exact h.1
  | .ai n k, x, cs, _, h => by simp only [toCV, cvR]; exact h.1
theorem toCVs_ok : ∀ {cs : List Co} {h : HL S cs} {vs : List Value}, cs.all noSt = true → fsR K.R K.sz m cs h vs → cvsR K g m (toCVs cs h) vs
  | [], _, _, _, h => h
  | c :: cs, h, _, hn, ⟨v1, v2, e, h1, h2⟩ => by
    simp only [List.all_cons, Bool.and_eq_true] at hn
    exact ⟨v1, v2, e, toCV_ok hn.1 h1, toCVs_ok hn.2 h2⟩
theorem upk_ok {c : Co} {x : T S c} {cs : List Value} (h : RK K c m x cs) : cvsR K g m (upk tb c x) cs := by
  cases c with
  | st i => exact toCVs_ok (K.flat i) ((K.spec i m x cs).1 h)
  | _ => exact cvsR_of (toCV_ok rfl h)
theorem ofCVs_ok : ∀ {cs : List Co} {vs ws : List (CV S)} {h : HL S cs} {us : List Value}, ofCVs cs vs = some (h, ws) → cvsR K g m vs us → ∃ c1 c2, us = c1 ++ c2 ∧ fsR K.R K.sz m cs h c1 ∧ cvsR K g m ws c2
  | [], vs, ws, h, us, e, hv => by
    simp only [ofCVs, Option.some.injEq, Prod.mk.injEq] at e; obtain ⟨_, rfl⟩ := e; exact ⟨[], us, rfl, rfl, hv⟩
  | _ :: _, [], _, _, _, e, _ => by simp [ofCVs] at e
  | c :: cs, v :: vs, ws, h, _, e, ⟨d1, d2, rfl, h1, h2⟩ => by
    simp only [ofCVs] at e
    obtain ⟨x, hx, e⟩ := Option.bind_eq_some_iff.1 e
    obtain ⟨p, hp, e⟩ := Option.map_eq_some_iff.1 e
    obtain ⟨ph, pw⟩ := p
    simp only [Prod.mk.injEq] at e; obtain ⟨rfl, rfl⟩ := e
    obtain ⟨c1, c2, rfl, k1, k2⟩ := ofCVs_ok hp h2
    exact ⟨d1 ++ c1, c2, by rw [List.append_assoc], ⟨d1, c1, rfl, ofCV_ok hx h1, k1⟩, k2⟩
theorem pk_ok {c : Co} {vs ws : List (CV S)} {x : T S c} {us : List Value} (h : pk tb c vs = some (x, ws)) (hv : cvsR K g m vs us) : ∃ c1 c2, us = c1 ++ c2 ∧ RK K c m x c1 ∧ cvsR K g m ws c2 := by
  unfold pk at h
  split at h
  · obtain ⟨p, hp, e⟩ := Option.map_eq_some_iff.1 h
    obtain ⟨ph, pw⟩ := p
    simp only [Prod.mk.injEq] at e; obtain ⟨rfl, rfl⟩ := e
    obtain ⟨c1, c2, rfl, k1, k2⟩ := ofCVs_ok hp hv
    refine ⟨c1, c2, rfl, (K.spec _ _ _ _).2 ?_, k2⟩
    rw [K.to_of]; exact k1
  · cases h
  · obtain ⟨y, hy, e⟩ := Option.map_eq_some_iff.1 h
    simp only [Prod.mk.injEq] at e; obtain ⟨rfl, rfl⟩ := e
    obtain ⟨c1, c2, rfl, h1, h2⟩ := hv
    exact ⟨c1, c2, rfl, ofCV_ok hy h1, h2⟩
theorem pk1_ok {c : Co} {vs : List (CV S)} {x : T S c} {us : List Value} (h : pk1 tb c vs = some x) (hv : cvsR K g m vs us) : RK K c m x us := by
  unfold pk1 at h
  obtain ⟨p, hp, h⟩ := Option.bind_eq_some_iff.1 h
  obtain ⟨px, pw⟩ := p
  split at h
  · rename_i hw
    obtain rfl : pw = [] := hw
    cases h
    obtain ⟨c1, c2, rfl, k1, k2⟩ := pk_ok hp hv
    simp only [cvsR] at k2; subst k2; simpa using k1
  · cases h
theorem slv_ok {c : Co} {v : CV S} {l : List (T S c)} {u : Value} (h : slv c v = some l) (hv : cvR K g m v [u]) : ∃ a n, u = .slice a l.length n ∧ Els (RK K c) m (zK K c) a n l := by
  obtain ⟨a, n, h1, h2⟩ : isSl (RK K c) (zK K c) m l [u] := ofCV_ok (c := .sl c) h hv
  exact ⟨a, n, by simpa using h1, h2⟩
def oprs (K : TbOK tb) (g : GG S) (m : Mem) (a : Act) : List Operand → List (AV S) → Prop
  | [], vs => vs = []
  | x :: xs, vs => ∃ v vs', vs = v :: vs' ∧ avR K g m v (a.eval x) ∧ oprs K g m a xs vs'
def kOf (a : Act) : List Operand → Kt
  | [] => []
  | .tmp t :: l => (t, a.eval (.tmp t)) :: kOf a l
  | _ :: l => kOf a l
theorem kOf_ke (a : Act) : ∀ l, Ke a (kOf a l)
  | [] => Ke.nil a
  | .tmp t :: l => Ke.cons rfl (kOf_ke a l)
  | .const _ :: l => kOf_ke a l
  | .global _ :: l => kOf_ke a l
  | .func _ :: l => kOf_ke a l
theorem lk_kOf (a : Act) : ∀ (l : List Operand) (t : Tmp), Operand.tmp t ∈ l → lk (kOf a l) t = some (a.eval (.tmp t))
  | [], _, h => by cases h
  | .tmp s :: l, t, h => by
    unfold kOf lk
    by_cases e : s = t
    · subst e; simp
    · rw [beq_ne e]
      refine lk_kOf a l t ?_
      rcases List.mem_cons.1 h with h | h
      · cases h; exact absurd rfl e
      · exact h
  | .const _ :: l, t, h => lk_kOf a l t (by rcases List.mem_cons.1 h with h | h; cases h; exact h)
  | .global _ :: l, t, h => lk_kOf a l t (by rcases List.mem_cons.1 h with h | h; cases h; exact h)
  | .func _ :: l, t, h => lk_kOf a l t (by rcases List.mem_cons.1 h with h | h; cases h; exact h)
theorem evK_kOf (a : Act) (l : List Operand) {x : Operand} (h : x ∈ l) : evK (kOf a l) x = some (a.eval x) := by
  cases x with
  | tmp t => exact lk_kOf a l t h
  | const v => rfl
  | global _ => rfl
  | func _ => rfl
def pick (ob : List (Nat × Nat × AO S)) : List Nat → List (Nat × Nat × AO S)
  | [] => []
  | q :: l => match look q ob with | some x => (q, x) :: pick ob l | none => pick ob l
structure Did (K : TbOK tb) (g : GG S) (m : Mem) (ct : Nat) (Lr Lm : List Ent) (r : Res S) (v : Value) (w' : World) : Prop where
  ex : ∃ m' g' La, m'.w = w' ∧ St (blocksOf (Lr ++ Lm)) m m' (Lr ++ La) ∧ GE g g' ∧ g'.vv = g.vv ∧ g'.oo = g.oo ∧ (∀ i, g'.bk i ≠ g.bk i → ct + 1 ≤ i ∧ i < ct + 32) ∧ AddR K g' m' r.add La ∧ avR K g' m' r.v v
def Fresh (g : GG S) (ct : Nat) : Prop := ∀ i, ct ≤ i → i < ct + 64 → g.bk i = none ∧ g.vv i = none ∧ g.oo i = none
structure OpOK (P : Program) (K : TbOK tb) (o : Oper) (xs : List (AV S)) (ob : List (Nat × Nat × AO S)) (ct : Nat) (r : Res S) : Prop where
  few : r.add.length ≤ 31
  did : ∀ g a m Lr Lm, Fresh g ct → K.B m → oprs K g m a o.op.operands.toList xs → ObR K g m (pick ob r.rd) Lr → ObR K g m (pick ob r.rm) Lm → Ow m (Lr ++ Lm) → StepTo P o a m.w fun v w' => Did K g m ct Lr Lm r v w'
variable {P : Program} {o : Oper} {xs : List (AV S)} {ob : List (Nat × Nat × AO S)} {ct : Nat} {r : Res S}
theorem Did.pure {g : GG S} {m : Mem} {Lr : List Ent} {v : Value} (hr : r.add = []) (hO : Ow m Lr) (hv : avR K g m r.v v) : Did K g m ct Lr [] r v m.w :=
  ⟨m, g, [], rfl, by simpa using St.refl hO, GE.refl g, rfl, rfl, fun i h => absurd rfl h, by rw [hr]; rfl, hv⟩
theorem OpOK.pure (h1 : r.rd = []) (h2 : r.rm = []) (h3 : r.add = []) (h : ∀ g a m, oprs K g m a o.op.operands.toList xs → StepTo P o a m.w fun v w' => w' = m.w ∧ avR K g m r.v v) : OpOK P K o xs ob ct r :=
  ⟨by rw [h3]; simp, fun g a m Lr Lm hf _ ho hr hm hO => by
    rw [h1] at hr; rw [h2] at hm
    simp only [pick, ObR] at hr hm
    subst hr; subst hm
    refine (h g a m ho).mono fun v w' ⟨e, hv⟩ => ?_
    subst e
    exact Did.pure h3 (by simpa using hO) hv⟩
end E
end Go.Proofs.Ythhmandpjlggcaa
