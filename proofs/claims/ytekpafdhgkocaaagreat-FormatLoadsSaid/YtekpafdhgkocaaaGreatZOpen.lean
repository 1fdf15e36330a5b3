/- Part of what the laws need: plain words, the walker and its laws, the program's functions. -/
import Derived.Test.YtekpafdhgkocaaaGreatZDrawM
import Derived.Test.YtekpafdhgkocaaaGreatRows
import Derived.ProofKit
import Derived.OpenShut
import Derived.ShutString
import Derived.ChangeOld
import Derived.Below
namespace Go.Proofs.YtekpafdhgkocaaaGreat
open Go.ChangeShapes Go.WideShapes Go.ChangeAt Go.RowKit G
theorem AD : ownKnob Tryz.prog.godebug = none := by kernel_rfl
theorem laidOut : laidOutB Tryz.prog = true := by kernel_rfl
def Mem.all (W : World) : Mem := ⟨W, fun _ _ => True⟩
theorem L9 {W : World} {b o : Nat} {v : Value} (h : W.cell? ⟨b, o, none⟩ = some v) : (Mem.all W).ok b o := by
 refine ⟨trivial, ?_⟩
 unfold World.cell? at h
 refine Classical.byContradiction fun hn => ?_
 rw [show (W.heap[b]? : Option Obj) = none from Array.getElem?_eq_none (show W.heap.size ≤ b from Nat.le_of_not_lt hn)] at h
 simp at h
def GK {H α : Type} (enc : TypeId × Value → H) (P : Program) (W : World) (base : Nat) (spare : Nat → Bool) (held : Bool) (R : Mem → α → List Value → Prop) (ok : α → Prop) (t : TypeId) : Prop :=
 ∀ fuel cs x, DataW.trod enc P W base spare held fuel t cs = some x → cs.length = P.cellsOf t ∧ ∃ y : α, R (Mem.all W) y cs ∧ ok y
section
variable {H : Type} {enc : TypeId × Value → H} {P : Program} {W : World} {base : Nat} {spare : Nat → Bool} {held : Bool} {t e : TypeId}
theorem IL {α : Type} {R : Mem → α → List Value → Prop} {ok : α → Prop} {sz : Nat} (ht : P.underlying t = some (.slice e)) (hct : P.cellsOf t = 1) (hc : P.cellsOf e = sz) (hs : 0 < sz) (hR : GK enc P W base spare held R ok e) :
 GK enc P W base spare held (Dg R sz) (fun l => l.length ≤ maxLen ∧ ∀ y ∈ l, ok y) t := by
 intro fuel cs x h
 rcases DataW.trod_slice ht h with ⟨rfl, _⟩ | ⟨ad, len, cap, elems, rest, n, _, rfl, _, _, hlc, hcm, hel, hat, _⟩
 · exact ⟨by rw [hct]; rfl, [], ⟨none, 0, rfl, cC.nil _ sz⟩, by simp, fun y hy => by cases hy⟩
 · rw [hc] at hat
   have each : ∀ i, i < len → ∃ ecs : List Value, ecs.length = sz ∧ (∃ y, R (Mem.all W) y ecs ∧ ok y) ∧ ∀ j v, ecs[j]? = some v → W.cell? ((ad.add (i * sz)).add j) = some v := by
    intro i hi
    have h1 := hat i hi
    cases hq : W.cells? base (ad.add (i * sz)) sz with
    | none => rw [hq] at h1; simp [hel, hi] at h1
    | some ecs =>
      rw [hq] at h1
      simp only [Option.bind_some] at h1
      obtain ⟨hlen, hy⟩ := hR n ecs elems[i] (by rw [h1]; simp [hel, hi])
      obtain ⟨_, hl2, hcell⟩ := World.cells?_some hq
      exact ⟨ecs, hl2, hy, fun j v hv => by
       have hj : j < ecs.length := (List.getElem?_eq_some_iff.1 hv).1
       rw [hcell j (by omega)]; exact hv⟩
   have hsp : 0 < len → ad.spot = none := by
    intro h0
    obtain ⟨ecs, hl, _, hcell⟩ := each 0 h0
    have h1 := hcell 0 (ecs[0]'(by omega)) (by simp)
    simp only [Nat.zero_mul, Addr.add, if_true] at h1
    unfold World.cell? at h1
    split at h1
    · split at h1
      · cases h1
      · rename_i hn; simpa using hn
    · cases h1
   have pick : ∃ (css : List (List Value)) (l : List α), css.length = len ∧ l.length = len ∧ (∀ (i : Nat) (cs : List Value), css[i]? = some cs → cs.length = sz ∧ ∀ j v, cs[j]? = some v → W.cell? ((ad.add (i * sz)).add j) = some v) ∧
    (∀ (i : Nat) (x : α) (cs : List Value), l[i]? = some x → css[i]? = some cs → R (Mem.all W) x cs) ∧ ∀ y ∈ l, ok y := by
    have : ∀ k, k ≤ len → ∃ (css : List (List Value)) (l : List α), css.length = k ∧ l.length = k ∧ (∀ (i : Nat) (cs : List Value), css[i]? = some cs → cs.length = sz ∧ ∀ j v, cs[j]? = some v → W.cell? ((ad.add (i * sz)).add j) = some v) ∧
     (∀ (i : Nat) (x : α) (cs : List Value), l[i]? = some x → css[i]? = some cs → R (Mem.all W) x cs) ∧ ∀ y ∈ l, ok y := by
     intro k
     induction k with
     | zero => intro _; exact ⟨[], [], rfl, rfl, fun i cs h => by simp at h, fun i x cs h => by simp at h, fun y hy => by cases hy⟩
     | succ k ih =>
       intro hk
       obtain ⟨css, l, h1, h2, h3, h4, h5⟩ := ih (by omega)
       obtain ⟨ecs, e1, ⟨y, hy, hoky⟩, e3⟩ := each k (by omega)
       refine ⟨css ++ [ecs], l ++ [y], by simp [h1], by simp [h2], fun i cs hi => ?_, fun i x cs hx hi => ?_, fun z hz => ?_⟩
       · by_cases hik : i < k
         · rw [List.getElem?_append_left (by omega)] at hi; exact h3 i cs hi
         · rw [List.getElem?_append_right (by omega)] at hi
           have hi0 : i - css.length = 0 := by
            have := (List.getElem?_eq_some_iff.1 hi).1; simp at this; omega
           rw [hi0] at hi; simp at hi; subst hi
           have : i = k := by omega
           subst this; exact ⟨e1, e3⟩
       · by_cases hik : i < k
         · rw [List.getElem?_append_left (by omega)] at hi hx; exact h4 i x cs hx hi
         · rw [List.getElem?_append_right (by omega)] at hi hx
           have hi0 : i - css.length = 0 := by
            have := (List.getElem?_eq_some_iff.1 hi).1; simp at this; omega
           rw [hi0] at hi; rw [show i - l.length = 0 by omega] at hx
           simp at hi hx; subst hi hx; exact hy
       · rcases List.mem_append.1 hz with h | h
         · exact h5 z h
         · simp at h; subst h; exact hoky
    exact this len (Nat.le_refl _)
   obtain ⟨css, l, h1, h2, h3, h4, h5⟩ := pick
   have hflat : css.flatten.length = len * sz := by
    have : ∀ (L : List (List Value)), (∀ c ∈ L, c.length = sz) → L.flatten.length = L.length * sz := by
     intro L
     induction L with
     | nil => intro _; simp
     | cons c L ih => intro h; rw [List.flatten_cons, List.length_append, h c (List.mem_cons_self ..), ih (fun c hc => h c (List.mem_cons_of_mem _ hc)), List.length_cons, Nat.add_mul]; omega
    rw [this css (fun c hc => by obtain ⟨i, hi, rfl⟩ := List.mem_iff_getElem.1 hc; exact (h3 i _ (by simp [hi])).1), h1]
   subst h2
   refine ⟨by rw [hct]; rfl, l, ⟨some ad, cap, rfl, css, ⟨hflat, hlc, hcm, (fun e => by cases e), fun j v hv => ?_⟩, by omega, fun i x cs hx hi => ⟨(h3 i cs hi).1, h4 i x cs hx hi⟩⟩, Nat.le_trans hlc hcm, h5⟩
   have hj : j < css.flatten.length := (List.getElem?_eq_some_iff.1 hv).1
   have hlen0 : 0 < l.length := by
    rcases Nat.eq_zero_or_pos l.length with h0 | h0
    · rw [hflat, h0] at hj; omega
    · exact h0
   have hi : j / sz < l.length := Nat.div_lt_of_lt_mul (by rw [Nat.mul_comm]; omega)
   have hci : css[j / sz]? = some (css[j / sz]'(by omega)) := by simp
   obtain ⟨k1, k2⟩ := h3 (j / sz) _ hci
   have hmod : j % sz < sz := Nat.mod_lt _ hs
   have hv2 : (css[j / sz]'(by omega))[j % sz]? = some ((css[j / sz]'(by omega))[j % sz]'(by omega)) := by simp
   have hfg := fj sz css (fun i cs hc => (h3 i cs hc).1) (j / sz) (j % sz) _ _ hci hv2
   have hjj : j / sz * sz + j % sz = j := by rw [Nat.mul_comm]; exact Nat.div_add_mod j sz
   rw [hjj, hv] at hfg
   simp only [Option.some.injEq] at hfg
   have hcl := k2 _ _ hv2
   rw [← hfg] at hcl
   obtain ⟨bl, of, sp⟩ := ad
   have hspn : sp = none := hsp hlen0
   subst hspn
   rw [Addr.add_mid, Addr.add_mid, Nat.add_assoc, hjj] at hcl
   exact ⟨bl, of, rfl, L9 hcl, hcl⟩
theorem I8 (ht : P.underlying t = some (.int .u8)) (hc : P.cellsOf t = 1) : GK enc P W base spare held nM (fun _ => True) t := by
 intro fuel cs x h
 obtain ⟨z, rfl, _, hw⟩ := DataW.trod_int ht h
 have hx : 0 ≤ z ∧ z ≤ 255 := by simpa [Lit.wf, IntKind.min, IntKind.max, IntKind.signed, IntKind.bits] using hw
 have e : ((UInt8.ofNat z.toNat).toNat : Int) = z := by rw [UInt8.toNat_ofNat']; omega
 exact ⟨by rw [hc]; rfl, UInt8.ofNat z.toNat, by unfold nM U8; rw [e], trivial⟩
end
theorem FG {P : Program} {f : FuncId} {args : Array Value} {W : World} (h : Spec P f args (Mem.all W) [] fun v _ L => L = [] ∧ v = .bool true) : Calls P f args W fun e W' => e = .returned (.bool true) ∧ Below W.heap.size W W' :=
 Calls.mono h fun e w' ⟨v, m', L', h1, h2, h3, _, h5⟩ => by subst h2 h5; exact ⟨h1, h3.below⟩
end Go.Proofs.YtekpafdhgkocaaaGreat
