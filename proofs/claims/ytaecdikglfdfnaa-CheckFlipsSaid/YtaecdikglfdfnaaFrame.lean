/- From the reading of an argument to the words of this proof. -/
import Derived.Test.YtaecdikglfdfnaaOwn
import Derived.Test.YtaecdikglfdfnaaRows
import Derived.WalkKit
import Derived.ProofKit
import Derived.OpenShut
import Derived.ShutString
import Derived.ChangeOld
import Derived.Below
namespace Go.Proofs.Ytaecdikglfdfnaa
open Go.ChangeShapes Go.WideShapes Go.ChangeAt Go.RowKit
open Go.ChangeMaps (open_string shut_string)

theorem ownKnob_none : ownKnob Try.prog.godebug = none := by kernel_rfl
theorem laidOut : laidOutB Try.prog = true := by kernel_rfl

/-- Cells of type t that can be read stand for a thing of R. -/
def Opens {H α : Type} (enc : TypeId × Value → H) (P : Program) (W : World) (base : Nat) (spare : Nat → Bool) (held : Bool) (R : World → α → List Value → Prop) (t : TypeId) : Prop :=
  ∀ fuel cs x, DataW.trod enc P W base spare held fuel t cs = some x → cs.length = P.cellsOf t ∧ ∃ y : α, R W y cs
section
variable {H : Type} {enc : TypeId × Value → H} {P : Program} {W : World} {base : Nat} {spare : Nat → Bool} {held : Bool} {t e : TypeId}
theorem els_open {α : Type} {R : World → α → List Value → Prop} {sz : Nat} (ht : P.underlying t = some (.slice e)) (hc : P.cellsOf e = sz) (hs : 0 < sz) (hR : Opens enc P W base spare held R e)
    {fuel : Nat} {cs : List Value} {x : DataW H × List MemPlace} (h : DataW.trod enc P W base spare held fuel t cs = some x) : ∃ a n cap l, cs = [.slice a n cap] ∧ Els R W sz a n cap l := by
  rcases DataW.trod_slice ht h with ⟨rfl, _⟩ | ⟨ad, len, cap, elems, rest, n, _, rfl, _, _, hlc, hcm, hel, hat, _⟩
  · exact ⟨none, 0, 0, [], rfl, Els.nil W sz⟩
  · rw [hc] at hat
    -- each element: its cells and its thing
    have each : ∀ i, i < len → ∃ ecs : List Value, ecs.length = sz ∧ (∃ y, R W y ecs) ∧ ∀ j v, ecs[j]? = some v → W.cell? ((ad.add (i * sz)).add j) = some v := by
      intro i hi
      have h1 := hat i hi
      cases hq : W.cells? base (ad.add (i * sz)) sz with
      | none => rw [hq] at h1; simp [hel, hi] at h1
      | some ecs =>
        rw [hq] at h1
        simp only [Option.bind_some] at h1
        obtain ⟨hlen, hy⟩ := hR n ecs elems[i] (by rw [h1]; simp [hel, hi])
        obtain ⟨_, hl2, hcell⟩ := World.cells?_some hq
        exact ⟨ecs, hl2, hy, fun j v hv => by
          have hj : j < ecs.length := (List.getElem?_eq_some_iff.1 hv).1
          rw [hcell j (by omega)]; exact hv⟩
    have hsp : 0 < len → ad.spot = none := by
      intro h0
      obtain ⟨ecs, hl, _, hcell⟩ := each 0 h0
      have h1 := hcell 0 (ecs[0]'(by omega)) (by simp)
      simp only [Nat.zero_mul, Addr.add, if_true] at h1
      unfold World.cell? at h1
      split at h1
      · split at h1
        · cases h1
        · rename_i hn; simpa using hn
      · cases h1
    have pick : ∃ (css : List (List Value)) (l : List α), css.length = len ∧ l.length = len ∧ (∀ (i : Nat) (cs : List Value), css[i]? = some cs → cs.length = sz ∧ ∀ j v, cs[j]? = some v → W.cell? ((ad.add (i * sz)).add j) = some v) ∧
        ∀ (i : Nat) (x : α) (cs : List Value), l[i]? = some x → css[i]? = some cs → R W x cs := by
      have : ∀ k, k ≤ len → ∃ (css : List (List Value)) (l : List α), css.length = k ∧ l.length = k ∧ (∀ (i : Nat) (cs : List Value), css[i]? = some cs → cs.length = sz ∧ ∀ j v, cs[j]? = some v → W.cell? ((ad.add (i * sz)).add j) = some v) ∧
          ∀ (i : Nat) (x : α) (cs : List Value), l[i]? = some x → css[i]? = some cs → R W x cs := by
        intro k
        induction k with
        | zero => intro _; exact ⟨[], [], rfl, rfl, fun i cs h => by simp at h, fun i x cs h => by simp at h⟩
        | succ k ih =>
          intro hk
          obtain ⟨css, l, h1, h2, h3, h4⟩ := ih (by omega)
          obtain ⟨ecs, e1, ⟨y, hy⟩, e3⟩ := each k (by omega)
          refine ⟨css ++ [ecs], l ++ [y], by simp [h1], by simp [h2], fun i cs hi => ?_, fun i x cs hx hi => ?_⟩
          · by_cases hik : i < k
            · rw [List.getElem?_append_left (by omega)] at hi; exact h3 i cs hi
            · rw [List.getElem?_append_right (by omega)] at hi
              have hi0 : i - css.length = 0 := by
                have := (List.getElem?_eq_some_iff.1 hi).1; simp at this; omega
              rw [hi0] at hi; simp at hi; subst hi
              have : i = k := by omega
              subst this; exact ⟨e1, e3⟩
          · by_cases hik : i < k
            · rw [List.getElem?_append_left (by omega)] at hi hx; exact h4 i x cs hx hi
            · rw [List.getElem?_append_right (by omega)] at hi hx
              have hi0 : i - css.length = 0 := by
                have := (List.getElem?_eq_some_iff.1 hi).1; simp at this; omega
              rw [hi0] at hi; rw [show i - l.length = 0 by omega] at hx
              simp at hi hx; subst hi hx; exact hy
      exact this len (Nat.le_refl _)
    obtain ⟨css, l, h1, h2, h3, h4⟩ := pick
    have hflat : css.flatten.length = len * sz := by
      have : ∀ (L : List (List Value)), (∀ c ∈ L, c.length = sz) → L.flatten.length = L.length * sz := by
        intro L
        induction L with
        | nil => intro _; simp
        | cons c L ih => intro h; rw [List.flatten_cons, List.length_append, h c (List.mem_cons_self ..), ih (fun c hc => h c (List.mem_cons_of_mem _ hc)), List.length_cons, Nat.add_mul]; omega
      rw [this css (fun c hc => by obtain ⟨i, hi, rfl⟩ := List.mem_iff_getElem.1 hc; exact (h3 i _ (by simp [hi])).1), h1]
    refine ⟨some ad, len, cap, l, rfl, css, ⟨hflat, hlc, hcm, (fun e => by cases e), fun j v hv => ?_⟩, by omega, h2, fun i x cs hx hi => ⟨(h3 i cs hi).1, h4 i x cs hx hi⟩⟩
    have hj : j < css.flatten.length := (List.getElem?_eq_some_iff.1 hv).1
    have hlen0 : 0 < len := by
      rcases Nat.eq_zero_or_pos len with h0 | h0
      · subst h0; rw [hflat] at hj; omega
      · exact h0
    have hi : j / sz < len := Nat.div_lt_of_lt_mul (by rw [Nat.mul_comm]; omega)
    have hci : css[j / sz]? = some (css[j / sz]'(by omega)) := by simp
    obtain ⟨k1, k2⟩ := h3 (j / sz) _ hci
    have hmod : j % sz < sz := Nat.mod_lt _ hs
    have hv2 : (css[j / sz]'(by omega))[j % sz]? = some ((css[j / sz]'(by omega))[j % sz]'(by omega)) := by simp
    have hfg := flatten_get sz css (fun i cs hc => (h3 i cs hc).1) (j / sz) (j % sz) _ _ hci hv2
    have hjj : j / sz * sz + j % sz = j := by rw [Nat.mul_comm]; exact Nat.div_add_mod j sz
    rw [hjj, hv] at hfg
    simp only [Option.some.injEq] at hfg
    have hcl := k2 _ _ hv2
    rw [← hfg] at hcl
    obtain ⟨bl, of, sp⟩ := ad
    have hspn : sp = none := hsp hlen0
    subst hspn
    refine ⟨bl, of, rfl, ?_⟩
    rw [Addr.add_mid, Addr.add_mid, Nat.add_assoc, hjj] at hcl
    exact hcl
theorem u8_of_wf {z : Int} (h : (Lit.int .u8 z).wf = true) : Value.int .u8 z = U8 (UInt8.ofNat z.toNat) := by
  have hx : 0 ≤ z ∧ z ≤ 255 := by simpa [Lit.wf, IntKind.min, IntKind.max, IntKind.signed, IntKind.bits] using h
  have : ((UInt8.ofNat z.toNat).toNat : Int) = z := by rw [UInt8.toNat_ofNat']; omega
  rw [U8, this]
def IsU8 (_ : World) (c : UInt8) (cs : List Value) : Prop := cs = [U8 c]
theorem u8_opens (he : P.underlying e = some (.int .u8)) (hc : P.cellsOf e = 1) : Opens enc P W base spare held IsU8 e := by
  intro fuel cs x h
  obtain ⟨z, rfl, _, hw⟩ := DataW.trod_int he h
  exact ⟨by rw [hc]; rfl, _, by unfold IsU8; rw [u8_of_wf hw]⟩
theorem by_of_els {a : Option Addr} {n cap : Nat} {l : List UInt8} (h : Els IsU8 W 1 a n cap l) : By W a n cap l := by
  obtain ⟨css, h1, h2, h3, h4⟩ := h
  have : css.flatten = l.map U8 := by
    have hcs : css = l.map fun c => [U8 c] := by
      apply List.ext_getElem?
      intro i
      by_cases hi : i < l.length
      · have := (h4 i l[i] (css[i]'(by omega)) (by simp) (by simp)).2
        rw [List.getElem?_eq_getElem (by omega), this]; simp [hi]
      · rw [List.getElem?_eq_none (by omega), List.getElem?_eq_none (by simp; omega)]
    rw [hcs]
    clear hcs h1 h2 h3 h4
    induction l with
    | nil => rfl
    | cons c l ih => simp [ih]
  unfold By; rw [← this]; exact h1
theorem by_open (ht : P.underlying t = some (.slice e)) (he : P.underlying e = some (.int .u8)) (hc : P.cellsOf e = 1)
    {fuel : Nat} {cs : List Value} {x : DataW H × List MemPlace} (h : DataW.trod enc P W base spare held fuel t cs = some x) : ∃ a n cap bs, cs = [.slice a n cap] ∧ By W a n cap bs := by
  obtain ⟨a, n, cap, l, e1, h1⟩ := els_open ht hc (by omega) (u8_opens he hc) h
  exact ⟨a, n, cap, l, e1, by_of_els h1⟩
theorem bytes_opens {tb : TypeId} (ht : P.underlying tb = some (.slice e)) (he : P.underlying e = some (.int .u8)) (hc : P.cellsOf e = 1) (hc2 : P.cellsOf tb = 1) : Opens enc P W base spare held IsBytes tb := by
  intro fuel cs x h
  obtain ⟨a, n, cap, bs, rfl, hb⟩ := by_open ht he hc h
  have hl := hb.len
  subst hl
  exact ⟨by rw [hc2]; rfl, bs, a, cap, rfl, hb⟩
end
end Go.Proofs.Ytaecdikglfdfnaa
