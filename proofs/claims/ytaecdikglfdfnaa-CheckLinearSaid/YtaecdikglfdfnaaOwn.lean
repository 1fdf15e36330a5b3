/- Slices that the call made itself: append, make; over any program. -/
import Derived.Test.YtaecdikglfdfnaaBase
namespace Go.Proofs.Ytaecdikglfdfnaa
open Go.RowKit

/-- What is known of a slice type t with elements of type e: the zero value, its cells, its bytes. -/
structure ElemT (P : Program) (t e : TypeId) (z : Value) (sz bytes : Nat) : Prop where
  und : P.underlying t = some (.slice e)
  info : (P.info? e).map (fun i => (i.zero, i.size, i.bytes)) = some (some z, sz, bytes)
  zs : z.cells.size = sz
  pos : 0 < sz
/-- A slice in a row that was made from block base on; nobody else has it. -/
abbrev Own (w : World) (base : Nat) (e : TypeId) (sz : Nat) (a : Option Addr) (n cap : Nat) (xs : List Value) : Prop := w.ownsRow base e sz (.slice a n cap) n xs
section
variable {w w' : World} {base : Nat} {e : TypeId} {sz : Nat} {a : Option Addr} {n cap : Nat} {xs : List Value}
theorem Own.sl (h : Own w base e sz a n cap xs) : Sl w sz a n cap xs := by
  obtain ⟨h1, h2⟩ := h
  rcases h2 with ⟨hv, hn⟩ | ⟨g, cp, cur, hv, hb, hh, hnc, hm, hs, ht⟩
  · cases hv; exact ⟨h1, Nat.le_refl _, by simp [maxLen], fun _ => rfl, fun j v hj => by
      have : xs = [] := List.eq_nil_of_length_eq_zero (by simpa using h1)
      subst this; simp at hj⟩
  · cases hv
    refine ⟨h1, hnc, hm, (fun e => by cases e), fun j v hj => ⟨g, 0, rfl, ?_⟩⟩
    rw [cell_of_row _ _ _ _ _ _ hh, Nat.zero_add]
    rw [← ht, List.getElem?_take] at hj
    split at hj
    · simpa using hj
    · cases hj
theorem Own.mono (h : Own w base e sz a n cap xs) {b : Nat} (hb : b ≤ base) : Own w b e sz a n cap xs := by
  obtain ⟨h1, h2⟩ := h
  refine ⟨h1, ?_⟩
  rcases h2 with h2 | ⟨g, cp, cur, hv, hbg, r⟩
  · exact .inl h2
  · exact .inr ⟨g, cp, cur, hv, by omega, r⟩
theorem Own.grow (h : Own w base e sz a n cap xs) (g : Grow w w') : Own w' base e sz a n cap xs := by
  obtain ⟨h1, h2⟩ := h
  refine ⟨h1, ?_⟩
  rcases h2 with h2 | ⟨gg, cp, cur, hv, hbg, hh, r⟩
  · exact .inl h2
  · exact .inr ⟨gg, cp, cur, hv, hbg, g.block hh, r⟩
/-- The block of a slice's address. -/
def blockOf (a : Option Addr) : Option Nat := a.map (·.block)
theorem ownBlock_eq (a : Option Addr) (n cap : Nat) : Value.ownBlock (.slice a n cap) = blockOf a := by cases a <;> rfl
theorem Own.block (h : Own w base e sz a n cap xs) : ∀ k, blockOf a = some k → base ≤ k ∧ k < w.heap.size := by
  intro k hk; exact World.ownsRow.lt h k (by rw [ownBlock_eq]; exact hk)
theorem Own.nil (w : World) (base : Nat) (e : TypeId) (sz : Nat) : Own w base e sz none 0 0 [] := World.ownsRow_nil w base e sz
theorem Own.lit (w : World) (cs : Array Value) (n : Nat) (hb : base ≤ w.heap.size) (hm : n ≤ maxLen) (hs : cs.size = n * sz) :
    Own (w.alloc (.cells cs e)) base e sz (some ⟨w.heap.size, 0, none⟩) n n cs.toList := World.ownsRow_lit w cs n hb hm hs
theorem Own.other (h : Own w base e sz a n cap xs) {row : Option Nat} (hg : w.grownBy w' row) (hne : ∀ k, blockOf a = some k → row ≠ some k) : Own w' base e sz a n cap xs := by
  refine World.ownsRow.kept h hg ?_
  rw [ownBlock_eq]
  cases hb : blockOf a with
  | none => exact .inl rfl
  | some k => exact .inr (fun e => hne k hb e.symm)
/-- The row itself, of a slice that is not nil. -/
theorem Own.row (h : Own w base e sz a n cap xs) (hn : 0 < n) : ∃ g cur, a = some ⟨g, 0, none⟩ ∧ base ≤ g ∧ w.heap[g]? = some (.cells cur e (0, 0)) ∧ n ≤ cap ∧ cap ≤ maxLen ∧ cur.size = cap * sz ∧ cur.toList.take (n * sz) = xs := by
  rcases h.2 with ⟨hv, hz⟩ | ⟨g, cp, cur, hv, hb, hh, hnc, hm, hs, ht⟩
  · omega
  · cases hv; exact ⟨g, cur, rfl, hb, hh, hnc, hm, hs, ht⟩
theorem own_form {v : Value} (h : w.ownsRow base e sz v n xs) : ∃ a cap, v = .slice a n cap := by
  rcases h.2 with ⟨rfl, rfl⟩ | ⟨g, cap, _, rfl, _⟩
  · exact ⟨_, _, rfl⟩
  · exact ⟨_, _, rfl⟩
end

section
variable {P : Program} (w : World)
/-- append to a slice of the call's own. -/
theorem run_append_sl {t ty e : TypeId} {z : Value} {sz bytes : Nat} (hT : ElemT P t e z sz bytes) (base : Nat) (a : Option Addr) (n cap : Nat) (xs : List Value) (hown : Own w base e sz a n cap xs)
    (a2 : Option Addr) (m cap2 : Nat) (ys : List Value) (hy : Sl w sz a2 m cap2 ys) (h1 : ∀ u ∈ ys, u.oneCell' = true) (hlen : (n + m) * bytes ≤ 140737488355328) (h63 : n + m ≤ maxLen) (hbase : base ≤ w.heap.size) :
    ∃ a' cap' w', (Builtin.append_ #[t, t] ty #[.slice a n cap, .slice a2 m cap2]).run P w = .ok (.slice a' (n + m) cap') w' ∧ Own w' base e sz a' (n + m) cap' (xs ++ ys) ∧ w.grownBy w' (blockOf a) := by
  obtain ⟨i, hi, hz, hs, hb⟩ := info_parts hT.info
  cases a2 with
  | none =>
    have hc := hy.2.2.2.1 rfl
    have hm : m = 0 := by have := hy.2.1; omega
    subst hc hm
    have hye : ys = [] := List.eq_nil_of_length_eq_zero (by simpa using hy.1)
    subst hye
    refine ⟨a, cap, w, run_append_owned_none w base t ty e i sz hT.und hi _ n xs hown, by simpa using hown, World.grownBy.refl w _⟩
  | some ad =>
    obtain ⟨v', w', hr, h2, h3, _⟩ := run_append_own (P := P) w base t ty e i z sz bytes hT.und hi hz hs hb hT.zs hT.pos (.slice a n cap) n xs hown ad m cap2 ys hy.1
      (fun j u hu => by
        obtain ⟨b, o, ha, hc⟩ := hy.2.2.2.2 j u hu
        cases ha; rw [Addr.add_mid]; exact hc) h1 h63 hlen hbase
    obtain ⟨a', cap', rfl⟩ := own_form h2
    exact ⟨a', cap', w', hr, h2, by rw [← ownBlock_eq]; exact h3⟩
/-- append that must grow: a new row. -/
theorem run_append_new {t ty e : TypeId} {z : Value} {sz bytes : Nat} (hT : ElemT P t e z sz bytes) (a : Option Addr) (n cap : Nat) (xs : List Value) (hx : Sl w sz a n cap xs)
    (a2 : Option Addr) (m cap2 : Nat) (ys : List Value) (hy : Sl w sz a2 m cap2 ys) (h1 : ∀ u ∈ ys, u.oneCell' = true) (hlen : (n + m) * bytes ≤ 140737488355328) (h63 : n + m ≤ maxLen) (hg : cap < n + m) :
    ∃ a' cap' w', (Builtin.append_ #[t, t] ty #[.slice a n cap, .slice a2 m cap2]).run P w = .ok (.slice a' (n + m) cap') w' ∧ Own w' w.heap.size e sz a' (n + m) cap' (xs ++ ys) ∧ Grow w w' := by
  obtain ⟨i, hi, hz, hs, hb⟩ := info_parts hT.info
  have h63' : n + m ≤ 9223372036854775807 := by unfold maxLen at h63; omega
  have hsrc : Src P i.size t (.slice a2 m cap2) m ys w := by
    rw [hs]
    cases a2 with
    | none =>
      have hc := hy.2.2.2.1 rfl
      have hm : m = 0 := by have := hy.2.1; omega
      subst hc hm
      have hye : ys = [] := List.eq_nil_of_length_eq_zero (by simpa using hy.1)
      subst hye
      exact Src.ofNil w hT.und 0
    | some ad =>
      exact Src.ofSlice w hT.und ad m cap2 ys hy.1 (fun j u hu => by
        obtain ⟨b, o, ha, hc⟩ := hy.2.2.2.2 j u hu
        cases ha; rw [Addr.add_mid]; exact hc) h1
  have hold : (Builtin.firstCells i.size n (.slice a n cap)).run P w.drew = .ok xs.toArray w.drew := by
    rw [hs]
    cases a with
    | none =>
      have hc := hx.2.2.2.1 rfl
      have hm : n = 0 := by have := hx.2.1; omega
      subst hc hm
      have hye : xs = [] := List.eq_nil_of_length_eq_zero (by simpa using hx.1)
      subst hye
      exact run_firstCells_none w.drew sz 0 0 0
    | some ad =>
      exact run_firstCells_some w.drew sz n ad n cap xs hx.1 (fun j u hu => by
        obtain ⟨b, o, ha, hc⟩ := hx.2.2.2.2 j u hu
        cases ha; rw [Addr.add_mid]; exact hc)
  have hr := run_append_grow_src (P := P) w t t ty e i z hT.und hi hz a n cap xs hold _ m ys hsrc hg (by omega) (growslice_fits hg (by rw [hb]; exact hlen))
  have hge := grownCap_ge w (n + m) cap e
  have hcm := grownCap_le_maxLen w (n + m) cap e h63
  refine ⟨_, _, _, hr, ⟨by rw [List.length_append, hx.1, hy.1, Nat.add_mul], .inr ⟨w.heap.size, _, _, rfl, Nat.le_refl _, heap_alloc_new w.drew _, hge, hcm, ?_, ?_⟩⟩, ((Grow.refl w).drew).alloc _⟩
  · simp only [Array.size_append, List.size_toArray, size_zeroCells, hT.zs, List.length_append, hx.1, hy.1, ← Nat.add_mul]
    congr 1
    omega
  · simp only [Array.toList_append]
    rw [show (n + m) * sz = (xs ++ ys).length by rw [List.length_append, hx.1, hy.1, Nat.add_mul]]
    exact List.take_left
end

section
variable {P : Program} {w : World} {ops : Array Oper} {rest : List Oper} {ac : Act} {Q : Exit → Act → World → Prop} {d : Option Tmp} {ty : TypeId} {pos : String} {aft : Array Edge} {s x : Operand} {t e : TypeId} {z : Value} {sz bytes : Nat}
/-- The operation: append to a slice of the call's own. -/
theorem append_own (k : Nat) (hT : ElemT P t e z sz bytes) {base : Nat} {a : Option Addr} {n cap : Nat} {xs : List Value} (hs : ac.eval s = .slice a n cap) (hown : Own w base e sz a n cap xs)
    {a2 : Option Addr} {m cap2 : Nat} {ys : List Value} (hx : ac.eval x = .slice a2 m cap2) (hy : Sl w sz a2 m cap2 ys) (h1 : ∀ u ∈ ys, u.oneCell' = true) (hlen : (n + m) * bytes ≤ 140737488355328) (h63 : n + m ≤ maxLen) (hbase : base ≤ w.heap.size)
    (hk : n + m = k) (h : ∀ a' cap' w', Own w' base e sz a' k cap' (xs ++ ys) → w.grownBy w' (blockOf a) → wpList P ops Q rest (ac.put d (.slice a' k cap')) w') :
    wpList P ops Q (⟨d, .call { callee := .builtin .append, args := #[s, x], argTypes := #[t, t] }, ty, pos, aft, none⟩ :: rest) ac w := by
  subst hk
  refine wpList_plain rfl fun K hK => ?_
  obtain ⟨a', cap', w', hr, h2, h3⟩ := run_append_sl (P := P) w (ty := ty) hT base a n cap xs hown a2 m cap2 ys hy h1 hlen h63 hbase
  unfold Oper.wp execOp
  simp only [resolve, invoke, builtin, Sem.run_bind, Sem.run_pure, Result.andThen_ok, List.map_toArray, List.map_cons, List.map_nil, hs, hx, hr]
  exact hK _ _ (h a' cap' w' h2 h3)
/-- The operation: append that must grow. -/
theorem append_new (k : Nat) (hT : ElemT P t e z sz bytes) {a : Option Addr} {n cap : Nat} {xs : List Value} (hs : ac.eval s = .slice a n cap) (hxs : Sl w sz a n cap xs)
    {a2 : Option Addr} {m cap2 : Nat} {ys : List Value} (hx : ac.eval x = .slice a2 m cap2) (hy : Sl w sz a2 m cap2 ys) (h1 : ∀ u ∈ ys, u.oneCell' = true) (hlen : (n + m) * bytes ≤ 140737488355328) (h63 : n + m ≤ maxLen) (hg : cap < n + m)
    (hk : n + m = k) (h : ∀ a' cap' w', Own w' w.heap.size e sz a' k cap' (xs ++ ys) → Grow w w' → wpList P ops Q rest (ac.put d (.slice a' k cap')) w') :
    wpList P ops Q (⟨d, .call { callee := .builtin .append, args := #[s, x], argTypes := #[t, t] }, ty, pos, aft, none⟩ :: rest) ac w := by
  subst hk
  refine wpList_plain rfl fun K hK => ?_
  obtain ⟨a', cap', w', hr, h2, h3⟩ := run_append_new (P := P) w (ty := ty) hT a n cap xs hxs a2 m cap2 ys hy h1 hlen h63 hg
  unfold Oper.wp execOp
  simp only [resolve, invoke, builtin, Sem.run_bind, Sem.run_pure, Result.andThen_ok, List.map_toArray, List.map_cons, List.map_nil, hs, hx, hr]
  exact hK _ _ (h a' cap' w' h2 h3)
end
section
variable {P : Program} {w : World} {ops : Array Oper} {rest : List Oper} {ac : Act} {Q : Exit → Act → World → Prop} {d : Option Tmp} {ty : TypeId} {pos : String} {aft : Array Edge} {l c : Operand} {t e : TypeId} {z : Value} {sz bytes : Nat}
/-- The operation: make([]T, n). -/
theorem make_own (n : Nat) (hT : ElemT P t e z sz bytes) {kl kc : IntKind} {L C : Int} (hl : ac.eval l = .int kl L) (hc : ac.eval c = .int kc C) (hL : L = (n : Int)) (hC : C = (n : Int)) (hb : bytes * n ≤ 281474976710656) (hm : n ≤ maxLen)
    (h : ∀ w', Own w' w.heap.size e sz (some ⟨w.heap.size, 0, none⟩) n n (madeCells z.cells (n * sz)).toList → Grow w w' → wpList P ops Q rest (ac.put d (.slice (some ⟨w.heap.size, 0, none⟩) n n)) w') :
    wpList P ops Q (⟨d, .makeSlice t l c, ty, pos, aft, none⟩ :: rest) ac w := by
  obtain ⟨i, hi, hz, hs, hbb⟩ := info_parts hT.info
  exact wpList_make_full w rfl l c t rfl w.heap.size e i z sz hT.und hi hz hs kl kc L C n hl hc hL hC (by rw [hbb]; exact hb) hm (Nat.le_refl _) fun w' h1 h2 => h w' h1 ((Grow.refl w).grown h2 (fun k e => by cases e))
end
theorem u8s_one (bs : List UInt8) : ∀ u ∈ bs.map U8, u.oneCell' = true := by
  intro u hu
  obtain ⟨_, _, rfl⟩ := List.mem_map.1 hu
  rfl
/-- string(b) -/
theorem run_string_by {P : Program} {w : World} {src dst e : TypeId} {a : Option Addr} {n cap : Nat} {bs : List UInt8} (hs : P.underlying src = some (.slice e)) (he : P.underlying e = some (.int .u8)) (hd : P.underlying dst = some .string)
    (h : By w a n cap bs) : (convert src dst (.slice a n cap)).run P w = .ok (.string ⟨bs.toArray⟩) w := by
  rw [run_convert_bytes_string w src dst e a n cap hs he hd]
  have hl := h.len
  cases a with
  | none =>
    have hc := h.2.2.2.1 rfl
    have hn : n = 0 := by have := h.lt63; omega
    subst hn
    have : bs = [] := List.eq_nil_of_length_eq_zero hl
    subst this
    simp [Conv.bytesToString]; rfl
  | some ad =>
    have hls : (loadCells ad n).run P w = .ok ((bs.map fun c => (c.toNat : Int)).map (Value.int .u8)).toArray w := by
      have := run_loadCells_list (P := P) w ad (bs.map U8) (fun j v hj => by
        obtain ⟨b, o, ha, hc⟩ := h.2.2.2.2 j v hj
        cases ha; rw [Addr.add_mid]; exact hc)
      rw [List.length_map, hl] at this
      rw [this, List.map_map]; rfl
    rw [run_bytesToString w ad n cap _ hls, foldl_push_bytes]
    congr 2
    simp [ByteArray.empty, ByteArray.emptyWithCapacity, List.map_map, Function.comp_def]
    rfl
/-- A slice of bytes of the call's own. -/
abbrev OwnBy (w : World) (base : Nat) (e : TypeId) (a : Option Addr) (n cap : Nat) (bs : List UInt8) : Prop := Own w base e 1 a n cap (bs.map U8)
theorem OwnBy.by {w : World} {base : Nat} {e : TypeId} {a : Option Addr} {n cap : Nat} {bs : List UInt8} (h : OwnBy w base e a n cap bs) : By w a n cap bs := Own.sl h
section
variable {w : World} {base : Nat} {e : TypeId} {g n cap : Nat} {bs : List UInt8}
theorem OwnBy.cell (h : OwnBy w base e (some ⟨g, 0, none⟩) n cap bs) {j : Nat} (hj : j < n) : w.cell? ⟨g, j, none⟩ = some (U8 (bs.getD j 0)) := by
  have hl : bs.length = n := h.by.len
  rw [World.ownsRow.cellAt h j (by omega)]
  simp [hl, hj]
theorem OwnBy.frozen (h : OwnBy w base e (some ⟨g, 0, none⟩) n cap bs) (j : Nat) : w.frozen? ⟨g, j, none⟩ = false := World.ownsRow.frozenAt h j
theorem OwnBy.store (h : OwnBy w base e (some ⟨g, 0, none⟩) n cap bs) (j : Nat) (c : UInt8) :
    OwnBy (w.setCell ⟨g, j, none⟩ (U8 c)) base e (some ⟨g, 0, none⟩) n cap (bs.set j c) ∧ w.grownBy (w.setCell ⟨g, j, none⟩ (U8 c)) (some g) := by
  have := World.ownsRow.stored h j (U8 c)
  rw [← List.map_set] at this
  exact this
theorem OwnBy.addr {a : Option Addr} (h : OwnBy w base e a n cap bs) (hn : 0 < n) : ∃ g, a = some ⟨g, 0, none⟩ ∧ base ≤ g ∧ g < w.heap.size := by
  obtain ⟨g, cur, ha, hb, hr, _⟩ := Own.row h hn
  exact ⟨g, ha, hb, (Array.getElem?_eq_some_iff.1 hr).1⟩
end
end Go.Proofs.Ytaecdikglfdfnaa
