/- Part of what the laws need: plain words, the walker and its laws, the program's functions. -/
import Derived.Test.YtekpafdhgkocaaaGreatZEvR
namespace Go.Proofs.YtekpafdhgkocaaaGreat
open Go.RowKit G
namespace E
variable {S : Nat → Type}
def tz (P : Program) : List Field → Option (List (TypeId × Nat × Nat))
 | [] => some []
 | f :: l => match P.info? f.type, tz P l with
   | some i, some r => some ((f.type, f.offset, i.size) :: r)
   | _, _ => none
def jy (P : Program) (t : TypeId) : Option (List (TypeId × Nat × Nat)) := match P.underlying t with
 | some (.struct fields) => tz P fields.toList
 | _ => none
theorem u9 {P : Program} : ∀ {l : List Field} {fs : List (TypeId × Nat × Nat)} {i : Nat} {f : TypeId × Nat × Nat}, tz P l = some fs → fs[i]? = some f → ∃ fl inf, l[i]? = some fl ∧ fl.type = f.1 ∧ fl.offset = f.2.1 ∧ P.info? f.1 = some inf ∧ inf.size = f.2.2
 | [], fs, i, f, h, hf => by simp only [tz, Option.some.injEq] at h; subst h; simp at hf
 | x :: l, fs, i, f, h, hf => by
   unfold tz at h
   split at h
   · rename_i inf r h1 h2
     cases h
     cases i with
     | zero => simp at hf; subst hf; exact ⟨x, inf, rfl, rfl, rfl, h1, rfl⟩
     | succ i => simpa using u9 h2 (by simpa using hf)
   · cases h
theorem tB {P : Program} {t : TypeId} {fs : List (TypeId × Nat × Nat)} (h : jy P t = some fs) : ∃ fields, P.underlying t = some (.struct fields) ∧ tz P fields.toList = some fs := by
 unfold jy at h
 split at h
 · rename_i fields hu; exact ⟨fields, hu, h⟩
 · cases h
def aM : TypeDesc → Bool
 | .func _ _ _ => true
 | _ => false
def LG (P : Program) (t : TypeId) : TD → Prop
 | .int k => P.underlying t = some (.int k)
 | .bool => P.underlying t = some .bool
 | .str => P.underlying t = some .string
 | .ptr e => P.underlying t = some (.pointer e)
 | .slice e => P.underlying t = some (.slice e)
 | .array n e => P.underlying t = some (.array n e)
 | .struct fs => jy P t = some fs
 | .map k v => P.underlying t = some (.map k v)
 | .func => (P.underlying t).map aM = some true
 | .iface => (P.underlying t).map rq = some false
def Oy : CV S → Bool
 | .int _ _ => true
 | .u8 _ => true
 | .tt _ => true
 | .str _ => true
 | .bI => true
 | .dI => true
 | .aU => true
 | .uG => true
 | .ru => true
 | .a8 _ _ => true
 | .ai _ _ _ => true
 | _ => false
def zeroOf (i : TI S) : Value := match dS i.d with
 | true => .agg (gv i.zero).toArray
 | false => (gv i.zero).headD undef
structure aV (P : Program) (t : TypeId) (i : TI S) : Prop where
 td : LG P t i.d
 info : (P.info? t).map (fun x => (x.zero, x.size, x.bytes)) = some (some (zeroOf i), i.size, i.bytes)
 JD : i.zero.all Oy = true
 len : (gv i.zero).length = i.size
 one : dS i.d = false → i.size = 1
variable {tb : Tb S}
structure Jf (K : cV tb) (P : Program) (t : TypeId) (z : List (CV S)) : Prop where
 guard : P.eqGuardType P.depth t = false
 eql : ∀ (g : GG S) (m : Mem) (vs ws : List (CV S)) (p : PSigma fun p : Prop => Decidable p) (xs ys : List Value) (w : World), kindOk z vs = true → kindOk z ws = true → vO vs ws = some p → bq K g m vs xs → bq K g m ws ys → (binOp .eql t (.agg xs.toArray) (.agg ys.toArray)).run P w = .ok (.bool (@decide p.1 p.2)) w
structure cn (P : Program) (K : cV tb) (tt : TypeId → Option (TI S)) : Prop where
 eq : ∀ t i, tt t = some i → i.eq = true → Jf K P t i.zero
 ty : ∀ t i, tt t = some i → aV P t i
 el : ∀ t i e c, tt t = some i → i.d = .slice e → i.co = .sl c → ∃ ei, tt e = some ei ∧ ei.size = zK K c ∧ 0 < ei.bytes
 mp : ∀ t i kt et kc vc, tt t = some i → i.d = .map kt et → i.co = .mp kc vc → xm tb kc = true → dY P kt (fun x v => ∃ m, cd K kc m x v) (fM tb kc)
variable {K : cV tb} {g : GG S} {m : Mem}
theorem Fo : ∀ {v : CV S}, Oy v = true → au K g m v (pa v)
 | .int _ _, _ | .u8 _, _ | .tt _, _ | .str _, _ | .bI, _ | .dI, _ | .aU, _ | .uG, _ | .ru, _ | .a8 _ _, _ | .ai _ _ _, _ => by simp only [au, pa]
theorem il : ∀ {vs : List (CV S)}, vs.all Oy = true → bq K g m vs (gv vs)
 | [], _ => rfl
 | v :: vs, h => by
   simp only [List.all_cons, Bool.and_eq_true] at h
   exact ⟨pa v, gv vs, by simp [gv], Fo h.1, il h.2⟩
theorem au.len : ∀ {v : CV S} {cs : List Value}, au K g m v cs → cs.length = v.n
 | .int _ _, _, h | .u8 _, _, h | .bo _ _ _ _, _, h | .tt _, _, h | .str _, _, h | .bI, _, h | .dI, _, h | .aU, _, h | .uG, _, h | .ru, _, h => by simp only [au] at h; rw [h]; rfl
 | .a8 _ _, _, h | .ai _ _ _, _, h => by simp only [au] at h; rw [h]; simp [CV.n]
 | .sl c l, _, h => by simp only [au] at h; obtain ⟨a, c, h, _⟩ := h; rw [h]; rfl
 | .KJ c l, _, h => by simp only [au] at h; obtain ⟨a, h, _⟩ := h; rw [h]; rfl
 | .rw o c l, _, h => by simp only [au] at h; obtain ⟨gh, l0, ad, _, h, _⟩ := h; rw [h]; rfl
 | .aw o, _, h => by simp only [au] at h; obtain ⟨gh, _, h⟩ := h; rw [h]; rfl
 | .ptr o off, _, h => by simp only [au] at h; obtain ⟨gh, b, _, _, h⟩ := h; rw [h]; rfl
 | .yl o, _, h => by simp only [au] at h; obtain ⟨gh, b, _, _, h⟩ := h; rw [h]; rfl
 | .mp o, _, h => by simp only [au] at h; obtain ⟨gh, b, _, _, h⟩ := h; rw [h]; rfl
 | .KP o _, _, h => by simp only [au] at h; obtain ⟨gh, _, h⟩ := h; rw [h]; rfl
 | .JR o, _, h => by simp only [au] at h; obtain ⟨gh, b, _, _, h⟩ := h; rw [h]; rfl
 | .rz o _ _, _, h => by simp only [au] at h; obtain ⟨gh, b, _, _, h, _⟩ := h; rw [h]; rfl
 | .pt o _ _ _, _, h => by simp only [au] at h; obtain ⟨gh, _, h, _⟩ := h; rw [h]; rfl
 | .na _ _, _, h => by simp only [au] at h; obtain ⟨b, h, _⟩ := h; rw [h]; rfl
 | .el c x off, _, h => by simp only [au] at h; obtain ⟨b, p, ecs, h, _⟩ := h; rw [h]; rfl
 | .CC o v c x j off, _, h => by simp only [au] at h; obtain ⟨gh, b, p, e, f, l, en, _, _, h, _⟩ := h; rw [h]; rfl
 | .Hc o off n i, _, h => by simp only [au] at h; obtain ⟨gh, b, _, _, h, _⟩ := h; rw [h]; rfl
 | .px o off n i j, _, h => by simp only [au] at h; obtain ⟨gh, b, _, _, h, _⟩ := h; rw [h]; rfl
 | .fn f xs ys, _, h => by simp only [au] at h; obtain ⟨v1, v2, h, _⟩ := h; rw [h]; rfl
 | .ag _, _, h => by simp only [au] at h
theorem Ha : ∀ {v : CV S} {cs : List Value}, au K g m v cs → ∀ u ∈ cs, u.oneCell' = true
 | .int _ _, _, h | .u8 _, _, h | .bo _ _ _ _, _, h | .tt _, _, h | .str _, _, h | .bI, _, h | .dI, _, h | .aU, _, h | .uG, _, h | .ru, _, h => by simp only [au] at h; subst h; intro u hu; simp at hu; subst hu; rfl
 | .a8 _ _, _, h | .ai _ _ _, _, h => by simp only [au] at h; subst h; intro u hu; simp at hu; obtain ⟨_, _, rfl⟩ := hu; rfl
 | .sl c l, _, h => by simp only [au] at h; obtain ⟨a, c, h, _⟩ := h; subst h; intro u hu; simp at hu; subst hu; rfl
 | .KJ c l, _, h => by simp only [au] at h; obtain ⟨a, h, _⟩ := h; subst h; intro u hu; simp at hu; subst hu; rfl
 | .rw o c l, _, h => by simp only [au] at h; obtain ⟨gh, l0, ad, _, h, _⟩ := h; subst h; intro u hu; simp at hu; subst hu; rfl
 | .aw o, _, h => by simp only [au] at h; obtain ⟨gh, _, h⟩ := h; subst h; intro u hu; simp at hu; subst hu; rfl
 | .ptr o off, _, h => by simp only [au] at h; obtain ⟨gh, b, _, _, h⟩ := h; subst h; intro u hu; simp at hu; subst hu; rfl
 | .yl o, _, h => by simp only [au] at h; obtain ⟨gh, b, _, _, h⟩ := h; subst h; intro u hu; simp at hu; subst hu; rfl
 | .mp o, _, h => by simp only [au] at h; obtain ⟨gh, b, _, _, h⟩ := h; subst h; intro u hu; simp at hu; subst hu; rfl
 | .KP o _, _, h => by simp only [au] at h; obtain ⟨gh, _, h⟩ := h; subst h; intro u hu; simp at hu; subst hu; rfl
 | .JR o, _, h => by simp only [au] at h; obtain ⟨gh, b, _, _, h⟩ := h; subst h; intro u hu; simp at hu; subst hu; rfl
 | .rz o _ _, _, h => by simp only [au] at h; obtain ⟨gh, b, _, _, h, _⟩ := h; subst h; intro u hu; simp at hu; subst hu; rfl
 | .pt o _ _ _, _, h => by simp only [au] at h; obtain ⟨gh, _, h, _⟩ := h; subst h; intro u hu; simp at hu; subst hu; rfl
 | .na _ _, _, h => by simp only [au] at h; obtain ⟨b, h, _⟩ := h; subst h; intro u hu; simp at hu; subst hu; rfl
 | .el c x off, _, h => by simp only [au] at h; obtain ⟨b, p, ecs, h, _⟩ := h; subst h; intro u hu; simp at hu; subst hu; rfl
 | .CC o v c x j off, _, h => by simp only [au] at h; obtain ⟨gh, b, p, e, f, l, en, _, _, h, _⟩ := h; subst h; intro u hu; simp at hu; subst hu; rfl
 | .Hc o off n i, _, h => by simp only [au] at h; obtain ⟨gh, b, _, _, h, _⟩ := h; subst h; intro u hu; simp at hu; subst hu; rfl
 | .px o off n i j, _, h => by simp only [au] at h; obtain ⟨gh, b, _, _, h, _⟩ := h; subst h; intro u hu; simp at hu; subst hu; rfl
 | .fn f xs ys, _, h => by simp only [au] at h; obtain ⟨v1, v2, h, _⟩ := h; subst h; intro u hu; simp at hu; subst hu; rfl
 | .ag _, _, h => by simp only [au] at h
theorem sy : ∀ {vs : List (CV S)} {cs : List Value}, bq K g m vs cs → ∀ u ∈ cs, u.oneCell' = true
 | [], _, h => by simp only [bq] at h; subst h; intro u hu; cases hu
 | v :: vs, _, ⟨c1, c2, rfl, h1, h2⟩ => fun u hu => by
   rcases List.mem_append.1 hu with hu | hu
   · exact Ha h1 u hu
   · exact sy h2 u hu
theorem D7 : ∀ {vs : List (CV S)} {cs : List Value}, bq K g m vs cs → cs.length = DJ vs
 | [], _, h => by simp only [bq] at h; subst h; rfl
 | v :: vs, _, ⟨c1, c2, rfl, h1, h2⟩ => by rw [List.length_append, h1.len, D7 h2]; simp [DJ]
theorem lK : ∀ {vs ws : List (CV S)} {c1 c2 : List Value}, bq K g m vs c1 → bq K g m ws c2 → bq K g m (vs ++ ws) (c1 ++ c2)
 | [], _, _, _, h, k => by simp only [bq] at h; subst h; exact k
 | v :: vs, _, _, _, ⟨d1, d2, rfl, h1, h2⟩, k => ⟨d1, d2 ++ _, by rw [List.append_assoc], h1, lK h2 k⟩
theorem jJ {v : CV S} {cs : List Value} (h : bq K g m [v] cs) : au K g m v cs := by
 obtain ⟨c1, c2, rfl, h1, h2⟩ := h; simp only [bq] at h2; subst h2; simpa using h1
theorem fP {v : CV S} {cs : List Value} (h : au K g m v cs) : bq K g m [v] cs := ⟨cs, [], by simp, h, rfl⟩
theorem mH : ∀ {o : Nat} {vs ws : List (CV S)} {cs : List Value}, cutAt o vs = some ws → bq K g m vs cs → bq K g m ws (cs.drop o) ∧ o ≤ cs.length
 | 0, vs, _, cs, h, k => by simp only [cutAt, Option.some.injEq] at h; subst h; simpa using k
 | o + 1, [], _, _, h, _ => by simp [cutAt] at h
 | o + 1, v :: vs, ws, _, h, ⟨c1, c2, rfl, h1, h2⟩ => by
   unfold cutAt at h
   split at h
   · rename_i hle
     have hle := Nat.le_of_ble_eq_true hle
     obtain ⟨k1, k2⟩ := mH h h2
     have := h1.len
     refine ⟨?_, by rw [List.length_append]; omega⟩
     rw [List.drop_append, List.drop_of_length_le (by omega), List.nil_append, this]; exact k1
   · cases h
termination_by _ vs => vs.length
theorem og : ∀ {n : Nat} {vs ws : List (CV S)} {cs : List Value}, mJ n vs = some ws → bq K g m vs cs → bq K g m ws (cs.take n) ∧ n ≤ cs.length
 | 0, vs, _, cs, h, k => by simp only [mJ, Option.some.injEq] at h; subst h; simp [bq]
 | n + 1, [], _, _, h, _ => by simp [mJ] at h
 | n + 1, v :: vs, ws, _, h, ⟨c1, c2, rfl, h1, h2⟩ => by
   unfold mJ at h
   split at h
   · rename_i hle
     have hle := Nat.le_of_ble_eq_true hle
     obtain ⟨ws', hw, rfl⟩ := Option.map_eq_some_iff.1 h
     obtain ⟨k1, k2⟩ := og hw h2
     have := h1.len
     refine ⟨⟨c1, c2.take (n + 1 - v.n), ?_, h1, k1⟩, by rw [List.length_append]; omega⟩
     rw [List.take_append, List.take_of_length_le (by omega), this]
   · cases h
termination_by _ vs => vs.length
theorem su : ∀ {o : Nat} {vs : List (CV S)} {v : CV S} {cs : List Value}, od o vs = some v → bq K g m vs cs → ∃ x, cs[o]? = some x ∧ au K g m v [x]
 | _, [], _, _, h, _ => by simp [od] at h
 | o, w :: vs, v, _, h, ⟨c1, c2, rfl, h1, h2⟩ => by
   have hl := h1.len
   unfold od at h
   split at h
   · rename_i hle
     have hle := Nat.le_of_ble_eq_true hle
     obtain ⟨x, k1, k2⟩ := su h h2
     exact ⟨x, by rw [List.getElem?_append_right (by omega), hl]; exact k1, k2⟩
   · rename_i hle
     have hlt : o < w.n := Nat.lt_of_not_le fun h' => by rw [Nat.ble_eq_true_of_le h'] at hle; cases hle
     rw [List.getElem?_append_left (by omega)]
     split at h
     · cases h; simp only [au] at h1; subst h1
       simp only [CV.n] at hlt
       exact ⟨_, by simp [hlt]; rfl, by simp only [au]⟩
     · cases h; simp only [au] at h1; subst h1
       simp only [CV.n] at hlt
       exact ⟨_, by simp [hlt]; rfl, by simp only [au]⟩
     · rename_i hne1 hne2
       cases h
       have hn : w.n = 1 := by cases w <;> first | rfl | exact absurd rfl (hne1 _ _) | exact absurd rfl (hne2 _ _ _)
       rw [hn] at hl hlt
       obtain rfl : o = 0 := by omega
       match c1, hl with
       | [x], _ => exact ⟨x, rfl, h1⟩
theorem Ko {o n : Nat} {xs vs ws : List (CV S)} {cs ds : List Value} (h : MM o n xs vs = some ws) (hx : bq K g m xs ds) (hn : ds.length = n) (hv : bq K g m vs cs) : bq K g m ws (cs.take o ++ ds ++ cs.drop (o + n)) ∧ o + n ≤ cs.length := by
 unfold MM at h
 obtain ⟨a, ha, h⟩ := Option.bind_eq_some_iff.1 h
 obtain ⟨b, hb, rfl⟩ := Option.map_eq_some_iff.1 h
 obtain ⟨k1, _⟩ := og ha hv
 obtain ⟨k2, k3⟩ := mH hb hv
 refine ⟨?_, k3⟩
 rw [List.append_assoc]
 exact lK k1 (lK hx k2)
theorem nz {α : Type} (n : Nat) (f : Nat → α) (o : Nat) (y : α) (mk : α → Value) (h : o < n) : (List.range n).map (fun i => mk (ah f o y i)) = ((List.range n).map fun i => mk (f i)).set o (mk y) := by
 refine List.ext_getElem (by simp) fun i h1 h2 => ?_
 simp only [List.getElem_map, List.getElem_range, List.getElem_set, ah]
 by_cases e : o = i
 · subst e; simp
 · rw [if_neg (by omega), if_neg e]
theorem qI {α : Type} (l : List α) (o : Nat) (x : α) (h : o < l.length) : l.set o x = l.take o ++ [x] ++ l.drop (o + 1) := by
 rw [List.set_eq_take_append_cons_drop, if_pos h]; simp
theorem EA : ∀ {o : Nat} {x : CV S} {vs ws : List (CV S)} {cs : List Value} {u : Value}, Ic o x vs = some ws → au K g m x [u] → bq K g m vs cs → bq K g m ws (cs.set o u) ∧ o < cs.length
 | _, _, [], _, _, _, h, _, _ => by simp [Ic] at h
 | o, x, w :: vs, ws, _, u, h, hx, ⟨c1, c2, rfl, h1, h2⟩ => by
   have hl := h1.len
   unfold Ic at h
   split at h
   · rename_i hle
     have hle := Nat.le_of_ble_eq_true hle
     obtain ⟨ws', hw, rfl⟩ := Option.map_eq_some_iff.1 h
     obtain ⟨k1, k2⟩ := EA hw hx h2
     refine ⟨⟨c1, c2.set (o - w.n) u, ?_, h1, k1⟩, by rw [List.length_append]; omega⟩
     rw [List.set_append_right _ _ (by omega), hl]
   · rename_i hle
     have hlt : o < w.n := Nat.lt_of_not_le fun h' => by rw [Nat.ble_eq_true_of_le h'] at hle; cases hle
     refine ⟨?_, by rw [List.length_append]; omega⟩
     rw [List.set_append_left _ _ (by omega)]
     split at h
     · cases h; simp only [au] at h1; subst h1
       simp only [CV.n] at hlt
       refine ⟨_, c2, rfl, ?_, h2⟩
       simp only [au] at hx ⊢
       rw [nz _ _ _ _ (fun y : UInt8 => Value.int .u8 (y.toNat : Int)) hlt]
       congr 1; simpa using hx
     · split at h
       · rename_i hk _
         cases h; simp only [au] at h1; subst h1
         simp only [CV.n] at hlt
         refine ⟨_, c2, rfl, ?_, h2⟩
         simp only [au] at hx ⊢
         subst hk
         rw [nz _ _ _ _ (fun y : Int => Value.int _ y) hlt]
         congr 1; simpa using hx
       · cases h
     · cases h
     · cases h
     · rename_i hne1 hne2 _ _
       cases h
       have hn : w.n = 1 := by cases w <;> first | rfl | exact absurd rfl (hne1 _ _) | exact absurd rfl (hne2 _ _ _)
       rw [hn] at hl hlt
       obtain rfl : o = 0 := by omega
       match c1, hl with
       | [y], _ => exact ⟨[u], c2, by simp, hx, h2⟩
theorem wS {c d : Co} (h : c = d) {l : List (T S c)} {m : Mem} {a : Option Addr} {n : Nat} (k : cC (RK K c) m (zK K c) a n l) : cC (RK K d) m (zK K d) a n (kg h l) := by subst h; exact k
theorem jj {c d : Co} (h : c = d) (l : List (T S c)) : (kg h l).length = l.length := by subst h; rfl
theorem Au : ∀ {c : Co} {v : CV S} {x : T S c} {cs : List Value}, FT c v = some x → au K g m v cs → RK K c m x cs := by
 intro c v x cs h hv
 unfold FT at h
 split at h
 · split at h
   · rename_i hk _
     cases h; subst hk; simp only [au] at hv; exact hv
   · cases h
 · cases h; simp only [au] at hv; exact hv
 · cases h; simp only [au] at hv; exact hv
 · cases h; simp only [au] at hv; exact hv
 · cases h; simp only [au] at hv; exact hv
 · split at h
   · rename_i hk _
     cases h; simp only [au] at hv; obtain ⟨a, n, h1, h2⟩ := hv
     exact ⟨a, n, by rw [jj]; exact h1, wS hk h2⟩
   · cases h
 · split at h
   · rename_i hk _
     cases h; simp only [au] at hv; obtain ⟨a, h1, h2⟩ := hv
     exact ⟨a, _, by rw [jj]; exact h1, wS hk h2⟩
   · cases h
 · split at h
   · rename_i hk _
     cases h; simp only [au] at hv; obtain ⟨gh, l0, ad, h0, h1, h2, h3⟩ := hv
     exact ⟨_, _, by rw [jj]; exact h1, wS hk h2⟩
   · cases h
 · cases h; simp only [au] at hv; exact ⟨none, 0, hv, cC.nil _ _⟩
 · split at h
   · rename_i hk
     simp only [Bool.and_eq_true] at hk
     have h1 := Nat.eq_of_beq_eq_true hk.1; have h2 := Nat.le_of_ble_eq_true hk.2
     cases h; subst h1; simp only [au] at hv; exact ⟨hv, h2⟩
   · cases h
 · split at h
   · rename_i hk2 hk _
     simp only [Bool.and_eq_true] at hk
     have h1 := Nat.eq_of_beq_eq_true hk.1; have h2 := Nat.le_of_ble_eq_true hk.2
     cases h; subst h1; subst hk2; simp only [au] at hv; exact ⟨hv, h2⟩
   · cases h
 · cases h
theorem toCV_ok : ∀ {c : Co} {x : T S c} {cs : List Value}, Aq c = true → RK K c m x cs → au K g m (toCV c x) cs
 | .int k, x, cs, _, h => by simp only [toCV, au]; exact h
 | .u8, x, cs, _, h => by simp only [toCV, au]; exact h
 | .bo, x, cs, _, h => by simp only [toCV, au]; exact h
 | .str, x, cs, _, h => by simp only [toCV, au]; exact h
 | .sl c, x, cs, _, h => by simp only [toCV, au]; exact h
 | .st _, _, _, h, _ => by cases h
 | .a8 n, x, cs, _, h => by simp only [toCV, au]; exact h.1
 | .ai n k, x, cs, _, h => by simp only [toCV, au]; exact h.1
theorem toCVs_ok : ∀ {cs : List Co} {h : HL S cs} {vs : List Value}, cs.all Aq = true → BI K.R K.sz m cs h vs → bq K g m (toCVs cs h) vs
 | [], _, _, _, h => h
 | c :: cs, h, _, hn, ⟨v1, v2, e, h1, h2⟩ => by
   simp only [List.all_cons, Bool.and_eq_true] at hn
   exact ⟨v1, v2, e, toCV_ok hn.1 h1, toCVs_ok hn.2 h2⟩
theorem yg {c : Co} {x : T S c} {cs : List Value} (h : RK K c m x cs) : bq K g m (Jh tb c x) cs := by
 cases c with
 | st i => exact toCVs_ok (K.flat i) ((K.spec i m x cs).1 h)
 | _ => exact fP (toCV_ok rfl h)
theorem B0 : ∀ {cs : List Co} {vs ws : List (CV S)} {h : HL S cs} {us : List Value}, zy cs vs = some (h, ws) → bq K g m vs us → ∃ c1 c2, us = c1 ++ c2 ∧ BI K.R K.sz m cs h c1 ∧ bq K g m ws c2
 | [], vs, ws, h, us, e, hv => by
   simp only [zy, Option.some.injEq, Prod.mk.injEq] at e; obtain ⟨_, rfl⟩ := e; exact ⟨[], us, rfl, rfl, hv⟩
 | _ :: _, [], _, _, _, e, _ => by simp [zy] at e
 | c :: cs, v :: vs, ws, h, _, e, ⟨d1, d2, rfl, h1, h2⟩ => by
   simp only [zy] at e
   obtain ⟨x, hx, e⟩ := Option.bind_eq_some_iff.1 e
   obtain ⟨p, hp, e⟩ := Option.map_eq_some_iff.1 e
   obtain ⟨ph, pw⟩ := p
   simp only [Prod.mk.injEq] at e; obtain ⟨rfl, rfl⟩ := e
   obtain ⟨c1, c2, rfl, k1, k2⟩ := B0 hp h2
   exact ⟨d1 ++ c1, c2, by rw [List.append_assoc], ⟨d1, c1, rfl, Au hx h1, k1⟩, k2⟩
theorem LB {c : Co} {vs ws : List (CV S)} {x : T S c} {us : List Value} (h : pk tb c vs = some (x, ws)) (hv : bq K g m vs us) : ∃ c1 c2, us = c1 ++ c2 ∧ RK K c m x c1 ∧ bq K g m ws c2 := by
 unfold pk at h
 split at h
 · obtain ⟨p, hp, e⟩ := Option.map_eq_some_iff.1 h
   obtain ⟨ph, pw⟩ := p
   simp only [Prod.mk.injEq] at e; obtain ⟨rfl, rfl⟩ := e
   obtain ⟨c1, c2, rfl, k1, k2⟩ := B0 hp hv
   refine ⟨c1, c2, rfl, (K.spec _ _ _ _).2 ?_, k2⟩
   rw [K.LH]; exact k1
 · cases h
 · obtain ⟨y, hy, e⟩ := Option.map_eq_some_iff.1 h
   simp only [Prod.mk.injEq] at e; obtain ⟨rfl, rfl⟩ := e
   obtain ⟨c1, c2, rfl, h1, h2⟩ := hv
   exact ⟨c1, c2, rfl, Au hy h1, h2⟩
theorem oD {c : Co} {vs : List (CV S)} {x : T S c} {us : List Value} (h : wh tb c vs = some x) (hv : bq K g m vs us) : RK K c m x us := by
 unfold wh at h
 obtain ⟨p, hp, h⟩ := Option.bind_eq_some_iff.1 h
 obtain ⟨px, pw⟩ := p
 split at h
 · rename_i hw
   obtain rfl : pw = [] := hw
   cases h
   obtain ⟨c1, c2, rfl, k1, k2⟩ := LB hp hv
   simp only [bq] at k2; subst k2; simpa using k1
 · cases h
theorem jw {c : Co} {v : CV S} {l : List (T S c)} {u : Value} (h : KL c v = some l) (hv : au K g m v [u]) : ∃ a n, u = .slice a l.length n ∧ cC (RK K c) m (zK K c) a n l := by
 obtain ⟨a, n, h1, h2⟩ : Dg (RK K c) (zK K c) m l [u] := Au (c := .sl c) h hv
 exact ⟨a, n, by simpa using h1, h2⟩
def lC (K : cV tb) (g : GG S) (m : Mem) (a : Act) : List Operand → List (AV S) → Prop
 | [], vs => vs = []
 | x :: xs, vs => ∃ v vs', vs = v :: vs' ∧ aA K g m v (a.eval x) ∧ lC K g m a xs vs'
def Ht (a : Act) : List Operand → Kt
 | [] => []
 | .tmp t :: l => (t, a.eval (.tmp t)) :: Ht a l
 | _ :: l => Ht a l
theorem bQ (a : Act) : ∀ l, Ke a (Ht a l)
 | [] => Ke.nil a
 | .tmp t :: l => Ke.cons rfl (bQ a l)
 | .const _ :: l => bQ a l
 | .global _ :: l => bQ a l
 | .func _ :: l => bQ a l
theorem uB (a : Act) : ∀ (l : List Operand) (t : Tmp), Operand.tmp t ∈ l → lk (Ht a l) t = some (a.eval (.tmp t))
 | [], _, h => by cases h
 | .tmp s :: l, t, h => by
   unfold Ht lk
   by_cases e : s = t
   · subst e; simp
   · rw [jh e]
     refine uB a l t ?_
     rcases List.mem_cons.1 h with h | h
     · cases h; exact absurd rfl e
     · exact h
 | .const _ :: l, t, h => uB a l t (by rcases List.mem_cons.1 h with h | h; cases h; exact h)
 | .global _ :: l, t, h => uB a l t (by rcases List.mem_cons.1 h with h | h; cases h; exact h)
 | .func _ :: l, t, h => uB a l t (by rcases List.mem_cons.1 h with h | h; cases h; exact h)
theorem aE (a : Act) (l : List Operand) {x : Operand} (h : x ∈ l) : ed (Ht a l) x = some (a.eval x) := by
 cases x with
 | tmp t => exact uB a l t h
 | const v => rfl
 | global _ => rfl
 | func _ => rfl
def pick (ob : List (Nat × Nat × AO S)) : List Nat → List (Nat × Nat × AO S)
 | [] => []
 | q :: l => match look q ob with | some x => (q, x) :: pick ob l | none => pick ob l
structure ve (K : cV tb) (g : GG S) (m : Mem) (ct : Nat) (Lr Lm : List az) (r : iH S) (v : Value) (w' : World) : Prop where
 ex : ∃ m' g' La, m'.w = w' ∧ St (ak (Lr ++ Lm)) m m' (Lr ++ La) ∧ GE g g' ∧ g'.vv = g.vv ∧ g'.oo = g.oo ∧ (∀ i, g'.bk i ≠ g.bk i → ct + 1 ≤ i ∧ i < ct + 32) ∧ wu K g' m' r.add La ∧ aA K g' m' r.v v
def rS (g : GG S) (ct : Nat) : Prop := ∀ i, ct ≤ i → i < ct + 64 → g.bk i = none ∧ g.vv i = none ∧ g.oo i = none
structure pR (P : Program) (K : cV tb) (o : Oper) (xs : List (AV S)) (ob : List (Nat × Nat × AO S)) (ct : Nat) (r : iH S) : Prop where
 A1 : r.add.length ≤ 31
 did : ∀ g a m Lr Lm, rS g ct → K.B m → lC K g m a o.op.operands.toList xs → dm K g m (pick ob r.rd) Lr → dm K g m (pick ob r.rm) Lm → Ow m (Lr ++ Lm) → ab P o a m.w fun v w' => ve K g m ct Lr Lm r v w'
variable {P : Program} {o : Oper} {xs : List (AV S)} {ob : List (Nat × Nat × AO S)} {ct : Nat} {r : iH S}
theorem ve.pure {g : GG S} {m : Mem} {Lr : List az} {v : Value} (hr : r.add = []) (hO : Ow m Lr) (hv : aA K g m r.v v) : ve K g m ct Lr [] r v m.w :=
 ⟨m, g, [], rfl, by simpa using St.refl hO, GE.refl g, rfl, rfl, fun i h => absurd rfl h, by rw [hr]; rfl, hv⟩
theorem pR.pure (h1 : r.rd = []) (h2 : r.rm = []) (h3 : r.add = []) (h : ∀ g a m, lC K g m a o.op.operands.toList xs → ab P o a m.w fun v w' => w' = m.w ∧ aA K g m r.v v) : pR P K o xs ob ct r :=
 ⟨by rw [h3]; simp, fun g a m Lr Lm hf _ ho hr hm hO => by
  rw [h1] at hr; rw [h2] at hm
  simp only [pick, dm] at hr hm
  subst hr; subst hm
  refine (h g a m ho).mono fun v w' ⟨e, hv⟩ => ?_
  subst e
  exact ve.pure h3 (by simpa using hO) hv⟩
end E
end Go.Proofs.YtekpafdhgkocaaaGreat
