/- Part of what the laws need: plain words, the walker and its laws, the program's functions. -/
import Derived.Test.YthnhjibbkleneaaZEvG
import Derived.Shelf.Bytes.SlIndexWhole
namespace Go.Proofs.Ythnhjibbkleneaa
open Go.RowKit Go.Shelf G
namespace E
variable {S : Nat → Type} {tb : Tb S}
theorem drewN_st (m : Mem) : ∀ q, ∃ m' : Mem, m'.w = m.w.drewN q ∧ St [] m m' []
  | 0 => ⟨m, rfl, St.refl (Ow.nil m)⟩
  | q + 1 => by
    obtain ⟨m1, e, h⟩ := drewN_st m q
    exact ⟨m1.up m1.w.drew, by show m1.w.drew = _; rw [e]; rfl, h.drew⟩
theorem nums_bytes (a : List UInt8) : Lib.bytesOf (a.map fun c => (c.toNat : Int)) = a := by
  unfold Lib.bytesOf
  rw [List.map_map]
  conv => rhs; rw [← List.map_id a]
  exact List.map_congr_left fun c _ => by simp
theorem u8_cells {m : Mem} {ad : Addr} {cap : Nat} {l : List UInt8} (h : Els isU8 m 1 (some ad) cap l) : ∀ i, i < l.length → m.w.cell? (ad.add i) = some (.int .u8 ((l.map fun c => (c.toNat : Int)).getD i 0)) := by
  intro i hi
  obtain ⟨b', o', ha, _, hc⟩ := h.sl_u8.2.2.2.2 i (U8 l[i]) (by rw [List.getElem?_map, List.getElem?_eq_getElem hi]; rfl)
  cases ha
  rw [Addr.add_mid, hc, List.getD_eq_getElem?_getD, List.getElem?_map, List.getElem?_eq_getElem hi]; rfl
theorem u8_range (l : List UInt8) : ∀ x ∈ l.map fun c => (c.toNat : Int), 0 ≤ x ∧ x < 256 := by
  intro x hx
  obtain ⟨c, _, rfl⟩ := List.mem_map.1 hx
  have := c.toNat_lt
  omega
theorem index_calls {P : Program} {ρ : Go.Shelf.Ren} (L : Lays.n185 P ρ) {m : Mem} {a1 a2 : Option Addr} {c1 c2 : Nat} {a b : List UInt8} (h1 : Els isU8 m 1 a1 c1 a) (h2 : Els isU8 m 1 a2 c2 b) (hlt : a.length < 4294967281) {v : Int} (hv : m.w.cell? ⟨ρ.g 1, 0, none⟩ = some (.int .i64 v)) :
    Calls P (ρ.f 185) #[.slice a1 a.length c1, .slice a2 b.length c2] m.w fun e w' => e = .returned (.int .i64 (Lib.index a b)) ∧ ∃ q, w' = m.w.drewN q := by
  have l1 := h1.lt63
  have l2 := h2.lt63
  have hk : b.length ≤ 9223372036854775807 := by unfold maxLen at l2; omega
  cases a2 with
  | none =>
    have e2 : b = [] := h2.none_nil
    subst e2
    rw [Lib.index_empty]
    exact (Any.bytes_Index_none L a1 none a.length c1 c2 m.w).mono fun e w' ⟨he, hw⟩ => ⟨he, 0, hw⟩
  | some ad2 =>
    cases a1 with
    | none =>
      have e1 : a = [] := h1.none_nil
      subst e1
      have hc0 : c1 = 0 := h1.sl_u8.2.2.2.1 rfl
      subst hc0
      refine (Any.bytes_Index_nil L (some ad2) b.length c2 m.w hk fun h => ?_).mono fun e w' ⟨he, hw⟩ => ⟨?_, 0, hw⟩
      · have hi : 0 < b.length := by omega
        obtain ⟨b', o', ha, _, hc⟩ := h2.sl_u8.2.2.2.2 0 (U8 b[0]) (by rw [List.getElem?_map, List.getElem?_eq_getElem hi]; rfl)
        exact ⟨b', o', _, ha, hc⟩
      · rw [he]
        cases b with
        | nil => rfl
        | cons x b => rfl
    | some ad1 =>
      have := Any.bytes_Index_at L ad1 ad2 a.length c1 b.length c2 (a.map fun c => (c.toNat : Int)) (b.map fun c => (c.toNat : Int)) v m.w (by simp) (by simp) (u8_range a) (u8_range b) (u8_cells h1) (u8_cells h2) l1.2.2 hlt hk hv
      rw [nums_bytes, nums_bytes] at this
      exact this
theorem index_sound {P : Program} {ρ : Go.Shelf.Ren} {K : TbOK tb} (L : Lays.n185 P ρ) {f : FuncId} (hf : ρ.f 185 = f) (hle : Nat.ble f 999999 = true) (hen : Enters P f) (hB : ∀ m, K.B m → ∃ v : Int, m.w.cell? ⟨ρ.g 1, 0, none⟩ = some (.int .i64 v)) :
    Sound P K ({ f := f, ins := [.one (.dat (.sl .u8)), .one (.dat (.sl .u8))], ls := [.sl .u8, .sl .u8], outs := [{ out := .one (.dat (.int .i64)), ls' := [.int .i64] }], sem := fun x => G.bytesIndex x.1 x.2 } : Ctr S) := by
  subst hf
  refine ⟨fun x y bk m vals Lx hsem hbk hin hLn hO hBm => ?_⟩
  obtain ⟨a, b⟩ := x
  obtain rfl : Lx = [] := List.length_eq_zero_iff.1 hLn
  have h0 := (hin [⟨.sl .u8, a⟩, ⟨.sl .u8, b⟩] [.one (.sl .u8 a), .one (.sl .u8 b)] [] [] [] rfl rfl rfl).1
  simp only [avsR] at h0
  obtain ⟨v1, r1, rfl, h1, v2, r2, rfl, h2, rfl⟩ := h0
  simp only [avR, cvR] at h1 h2
  obtain ⟨a1, c1, e1, h1⟩ := h1
  obtain ⟨a2, c2, e2, h2⟩ := h2
  simp only [List.cons.injEq, and_true] at e1 e2
  subst e1; subst e2
  obtain ⟨v, hv⟩ := hB m hBm
  have hs : G.bytesIndex a b = some (show Int from y) := hsem
  unfold G.bytesIndex at hs
  split at hs
  · rename_i hlt
    have hy := Option.some.inj hs
    unfold Does
    rw [if_pos (Nat.le_of_ble_eq_true hle)]
    refine ⟨hen, (index_calls L h1 h2 hlt hv).mono fun e w' ⟨he, q, hw⟩ => ?_⟩
    obtain ⟨m', e1, hS⟩ := drewN_st m q
    refine ⟨_, m', [], he, by rw [e1, hw], hS, ?_⟩
    show Post1 K 0 _ bk [] y _ m' []
    refine ⟨fun _ => none, [], rfl, fun i hi => absurd hi (by omega), fun _ _ => rfl, fun g ids ds out ds1 l _ hd hfill houts => ?_⟩
    have hd : some [(⟨.int .i64, y⟩ : Dyn S)] = some ds := hd
    cases hd
    have hfill : some (AV.one (.int .i64 (show Int from y)), ([] : List (Dyn S))) = some (out, ds1) := hfill
    cases hfill
    have houts : some ([] : List (Nat × AO S)) = some l := houts
    cases houts
    exact ⟨by simp only [avR, cvR]; rw [hy], rfl⟩
  · cases hs
end E
end Go.Proofs.Ythnhjibbkleneaa
