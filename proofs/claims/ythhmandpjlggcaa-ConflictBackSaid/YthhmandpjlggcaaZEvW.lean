/- Part of what the laws need: plain words, the walker and its laws, the program's functions. -/
import Derived.Test.YthhmandpjlggcaaZEvJ
import Derived.Test.YthhmandpjlggcaaZMore
namespace Go.Proofs.Ythhmandpjlggcaa
open Go.RowKit G
namespace E
variable {S : Nat → Type} {tb : Tb S} {K : TbOK tb} {P : Program} {tt : TypeId → Option (TI S)} {Φ : List (Ctr S)} {fa : FA}
def Inj {γ γ' : Type} (φ : γ → γ') : Prop := ∀ x y, φ x = φ y → x = y
theorem inj_inr {α β : Type} : Inj (Sum.inr : β → α ⊕ β) := fun _ _ h => Sum.inr.inj h
theorem inj_sum {α β γ : Type} {φ : β → γ} (h : Inj φ) : Inj (Sum.map (id : α → α) φ) := fun x y e => by
  cases x <;> cases y <;> simp_all
  exact h _ _ e
theorem agree_map {γ γ' : Type} {φ : γ → γ'} (hφ : Inj φ) {a b : Option γ} {a' b' : Option γ'} (ha : a' = a.map φ) (hb : b' = b.map φ) : agree a' b' = (agree a b).map φ := by
  subst ha; subst hb
  unfold agree
  by_cases h : a = b
  · subst h; rw [if_pos rfl, if_pos rfl]
  · rw [if_neg h, if_neg fun e => h (by
      cases a <;> cases b <;> simp_all
      exact h (hφ _ _ e))]; rfl
theorem agree_some {γ : Type} {a b : Option γ} {z : γ} (h : agree a b = some z) : a = some z ∧ b = some z := by
  unfold agree at h
  split at h
  · rename_i e; subst e; exact ⟨h, h⟩
  · cases h
def NK {β : Type} (κ : Kp S β) : Prop := ∀ (γ γ' : Type) (φ : γ → γ') (_ : Inj φ) (e : β → γ) (ex : Exi) (σ : AS S), κ γ' (fun b => φ (e b)) ex σ = (κ γ e ex σ).map φ
structure NW (f : W S) : Prop where
  n1 : ∀ (an : An) (σ : AS S) (β1 β2 : Type) (κ1 : Kp S β1) (κ2 : Kp S β2) (q : β1 → β2) (γ : Type) (e : β2 → γ), (∀ (δ : Type) (e : β2 → δ) ex σ, κ2 δ e ex σ = κ1 δ (fun b => e (q b)) ex σ) → f an σ β2 κ2 γ e = f an σ β1 κ1 γ (fun b => e (q b))
  n3 : ∀ (an : An) (σ : AS S) (β : Type) (κ : Kp S β) (γ γ' : Type) (φ : γ → γ') (_ : Inj φ) (e : β → γ), NK κ → f an σ β κ γ' (fun b => φ (e b)) = (f an σ β κ γ e).map φ
theorem Iter_map {σ A B : Type} {f : σ → Option (σ ⊕ A)} {f' : σ → Option (σ ⊕ B)} {φ : A → B} (h : ∀ s, f' s = (f s).map (Sum.map id φ)) (s : σ) : Iter f' s = (Iter f s).map φ := by
  have key : ∀ (k : Nat) (s : σ) (r : B), LoopN f' k s r ↔ ∃ r0, LoopN f k s r0 ∧ φ r0 = r := fun k => by
    induction k with
    | zero => intro s r; exact ⟨fun h => h.elim, fun ⟨_, h, _⟩ => h.elim⟩
    | succ k ih =>
      intro s r
      constructor
      · rintro ⟨x, hx, hr⟩
        rw [h] at hx
        obtain ⟨y, hy, rfl⟩ := Option.map_eq_some_iff.1 hx
        cases y with
        | inl s' => obtain ⟨r0, h1, h2⟩ := (ih s' r).1 hr; exact ⟨r0, ⟨_, hy, h1⟩, h2⟩
        | inr a => exact ⟨a, ⟨_, hy, rfl⟩, hr⟩
      · rintro ⟨r0, ⟨x, hx, hr⟩, rfl⟩
        refine ⟨Sum.map id φ x, by rw [h, hx]; rfl, ?_⟩
        cases x with
        | inl s' => exact (ih s' _).2 ⟨r0, hr, rfl⟩
        | inr a => show φ a = φ r0; rw [show a = r0 from hr]
  refine Option.ext fun r => ?_
  rw [Iter_iff, Option.map_eq_some_iff]
  constructor
  · rintro ⟨k, hk⟩
    obtain ⟨r0, h1, h2⟩ := (key k s r).1 hk
    exact ⟨r0, Iter_iff.2 ⟨k, h1⟩, h2⟩
  · rintro ⟨r0, h1, h2⟩
    obtain ⟨k, hk⟩ := Iter_iff.1 h1
    exact ⟨k, (key k s r).2 ⟨r0, hk, h2⟩⟩
theorem bind_map' {α β γ : Type} {x : Option α} {f : α → Option β} {φ : β → γ} {f' : α → Option γ} (h : ∀ a, f' a = (f a).map φ) : x.bind f' = (x.bind f).map φ := by cases x; rfl; exact h _
theorem map_bind' {α β γ δ : Type} {x : Option α} {q : α → β} {f : β → Option δ} {f' : α → Option γ} {φ : γ → δ} (h : ∀ a, f (q a) = (f' a).map φ) : (x.map q).bind f = (x.bind f').map φ := by cases x; rfl; exact h _
theorem kN_nk {J : JA} {σ : AS S} : NK (kN tb J σ) := fun δ δ' ψ hψ e ex σ' => by
  cases ex with
  | normal => exact bind_map' fun z => rfl
  | ret => rfl
  | exit n => rfl
theorem kJ_nk {J : JA} {σ : AS S} {β γ : Type} {κ : Kp S β} {emb : β → γ} (hκ : NK κ) : NK (kJ tb J σ κ emb) := fun δ δ' ψ hψ e ex σ' => by
  cases ex with
  | normal => exact bind_map' fun z => rfl
  | ret => exact hκ _ _ _ hψ _ _ _
  | exit n => exact hκ _ _ _ hψ _ _ _
theorem kB_nk {β : Type} {id : Nat} {κ : Kp S β} (hκ : NK κ) : NK (kB id κ) := fun δ δ' ψ hψ e ex σ' => by
  cases ex with
  | normal => exact hκ _ _ _ hψ _ _ _
  | ret => exact hκ _ _ _ hψ _ _ _
  | exit n => simp only [kB]; split <;> exact hκ _ _ _ hψ _ _ _
theorem kS_nk {β : Type} {f : W S} {an : An} {κ : Kp S β} (hf : NW f) (hκ : NK κ) : NK (kS f an κ) := fun δ δ' ψ hψ e ex σ' => by
  cases ex with
  | normal => exact hf.n3 _ _ _ _ _ _ ψ hψ _ hκ
  | ret => exact hκ _ _ _ hψ _ _ _
  | exit n => exact hκ _ _ _ hψ _ _ _
theorem kJ_eq {J : JA} {σ : AS S} {β1 β2 γ : Type} {κ1 : Kp S β1} {κ2 : Kp S β2} {q : β1 → β2} {e : β2 → γ} (h : ∀ (δ : Type) (e : β2 → δ) ex σ, κ2 δ e ex σ = κ1 δ (fun b => e (q b)) ex σ) : kJ tb J σ κ2 e = kJ tb J σ κ1 (fun b => e (q b)) := by
  funext γ' e' ex σ'
  cases ex <;> first | rfl | exact h _ _ _ _
theorem kJ_map {f : W S} (hf : NW f) {J : JA} {a : An} {σ σ0 : AS S} {β γ γ' : Type} {κ : Kp S β} {φ : γ → γ'} {e : β → γ} (hφ : Inj φ) (hκ : NK κ) :
    f a σ (HT S J.ls ⊕ γ') (kJ tb J σ0 κ fun b => φ (e b)) (HT S J.ls ⊕ γ') id = (f a σ (HT S J.ls ⊕ γ) (kJ tb J σ0 κ e) (HT S J.ls ⊕ γ) id).map (Sum.map id φ) :=
  (hf.n1 a σ (HT S J.ls ⊕ γ) (HT S J.ls ⊕ γ') (kJ tb J σ0 κ e) (kJ tb J σ0 κ fun b => φ (e b)) (Sum.map id φ) (HT S J.ls ⊕ γ') id fun δ e' ex σ' => by cases ex <;> rfl).trans
    (hf.n3 a σ (HT S J.ls ⊕ γ) (kJ tb J σ0 κ e) (HT S J.ls ⊕ γ) (HT S J.ls ⊕ γ') (Sum.map id φ) (inj_sum hφ) id (kJ_nk hκ))
theorem wj0_nw {c : Code} {f : W S} (hf : NW f) : NW (wj0 tb c f) := by
  refine ⟨fun an σ β1 β2 κ1 κ2 q γ e h => ?_, fun an σ β κ γ γ' φ hφ e hκ => ?_⟩
  · unfold wj0
    split
    · rename_i J a
      split
      · refine bind_eq fun z => ?_
        split
        · exact h _ _ _ _
        · rfl
      · rw [kJ_eq h]
        refine bind_eq fun z => ?_
        cases z with
        | inl u =>
          simp only [joinK]
          split
          · exact h _ _ _ _
          · rfl
        | inr b => rfl
    · exact hf.n1 _ _ _ _ _ _ _ _ _ h
  · unfold wj0
    split
    · rename_i J a
      split
      · refine bind_map' fun z => ?_
        split
        · exact hκ _ _ _ hφ _ _ _
        · rfl
      · have e1 := kJ_map (tb := tb) hf (J := J.at_ c σ.fb) (a := a) (σ := σ) (σ0 := σ) (φ := φ) (e := e) hφ hκ
        refine (congrArg (fun x => Option.bind x _) e1).trans (map_bind' fun z => ?_)
        cases z with
        | inl u =>
          show (match unpack tb (J.at_ c σ.fb) σ u with | some σ1 => κ γ' (fun b => φ (e b)) .normal σ1 | none => none) = Option.map φ (match unpack tb (J.at_ c σ.fb) σ u with | some σ1 => κ γ e .normal σ1 | none => none)
          cases unpack tb (J.at_ c σ.fb) σ u with
          | some σ1 => exact hκ _ _ _ hφ _ _ _
          | none => rfl
        | inr b => rfl
    · exact hf.n3 _ _ _ _ _ _ _ hφ _ hκ
theorem wj_nw {c : Code} {f : W S} (hf : NW f) : NW (wj tb c f) := by
  have h0 := wj0_nw (tb := tb) (c := c) hf
  refine ⟨fun an σ β1 β2 κ1 κ2 q γ e h => ?_, fun an σ β κ γ γ' φ hφ e hκ => ?_⟩
  · unfold wj
    split
    · split
      · exact h0.n1 _ _ _ _ _ _ _ _ _ h
      · rfl
    · exact h0.n1 _ _ _ _ _ _ _ _ _ h
  · unfold wj
    split
    · split
      · exact h0.n3 _ _ _ _ _ _ _ hφ _ hκ
      · rfl
    · exact h0.n3 _ _ _ _ _ _ _ hφ _ hκ
theorem guardK_nat {γ γ' : Type} {φ : γ → γ'} {ops : Array Oper} {gd : Option (Nat × Bool)} {σ : AS S} {go : Bool → AS S → Option γ} {go' : Bool → AS S → Option γ'} (h : ∀ b σ, go' b σ = (go b σ).map φ) : guardK ops gd σ go' = (guardK ops gd σ go).map φ := by
  unfold guardK
  split
  · exact h _ _
  · split
    · split
      · exact h _ _
      · split <;> exact h _ _
      · rfl
    · exact h _ _
    · rfl
theorem evOps_nat {γ γ' : Type} {φ : γ → γ'} {ops : Array Oper} : ∀ {rest : List Oper} {i : Nat} {σ : AS S} {lg : Log} {k : AS S → Log → Option γ} {k' : AS S → Log → Option γ'}, (∀ σ lg, k' σ lg = (k σ lg).map φ) → evOps tb tt Φ fa ops rest i σ lg k' = (evOps tb tt Φ fa ops rest i σ lg k).map φ
  | [], i, σ, lg, k, k', h => h _ _
  | o :: rest, i, σ, lg, k, k', h => by
    simp only [evOps]
    refine guardK_nat fun b σ1 => ?_
    cases b with
    | false => exact evOps_nat h
    | true =>
      simp only
      split
      · rw [core_nat (k := fun r => _), core_nat (γ := γ) (k := fun r => _)]
        refine bind_map' fun r => ?_
        split
        · exact evOps_nat h
        · rfl
      · rfl
theorem rangeEnd_eq {q : Nat} {σ : AS S} {β1 β2 : Type} {κ1 : Kp S β1} {κ2 : Kp S β2} {f : β1 → β2} {γ : Type} {e : β2 → γ} (h : ∀ (δ : Type) (e : β2 → δ) ex σ, κ2 δ e ex σ = κ1 δ (fun b => e (f b)) ex σ) : rangeEnd q σ κ2 e = rangeEnd q σ κ1 (fun b => e (f b)) := by
  unfold rangeEnd
  split
  · split <;> first | exact h _ _ _ _ | rfl
  · rfl
theorem rangeEnd_map {q : Nat} {σ : AS S} {β : Type} {κ : Kp S β} {γ γ' : Type} {φ : γ → γ'} {e : β → γ} (hφ : Inj φ) (hκ : NK κ) : rangeEnd q σ κ (fun b => φ (e b)) = (rangeEnd q σ κ e).map φ := by
  unfold rangeEnd
  split
  · split <;> first | exact hκ _ _ _ hφ _ _ _ | rfl
  · rfl
theorem evC_nw : ∀ c : Code, NW (evC tb tt Φ fa c)
  | .skip => wj_nw ⟨fun _ _ _ _ _ _ _ _ _ h => h _ _ _ _, fun _ _ _ _ _ _ _ hφ _ h => h _ _ _ hφ _ _ _⟩
  | .label _ => wj_nw ⟨fun _ _ _ _ _ _ _ _ _ h => h _ _ _ _, fun _ _ _ _ _ _ _ hφ _ h => h _ _ _ hφ _ _ _⟩
  | .ret => wj_nw ⟨fun _ _ _ _ _ _ _ _ _ h => h _ _ _ _, fun _ _ _ _ _ _ _ hφ _ h => h _ _ _ hφ _ _ _⟩
  | .exit _ => wj_nw ⟨fun _ _ _ _ _ _ _ _ _ h => h _ _ _ _, fun _ _ _ _ _ _ _ hφ _ h => h _ _ _ hφ _ _ _⟩
  | .seq x y => wj_nw (by
    have hx := evC_nw x
    have hy := evC_nw y
    refine ⟨fun an σ β1 β2 κ1 κ2 q γ e h => ?_, fun an σ β κ γ γ' φ hφ e hκ => ?_⟩
    · exact hx.n1 _ _ _ _ _ _ q _ _ fun δ e' ex σ' => by
        cases ex with
        | normal => exact hy.n1 _ _ _ _ _ _ q _ _ h
        | ret => exact h _ _ _ _
        | exit n => exact h _ _ _ _
    · exact hx.n3 _ _ _ _ _ _ φ hφ _ (kS_nk hy hκ))
  | .cond c x y => wj_nw (by
    have hx := evC_nw x
    have hy := evC_nw y
    refine ⟨fun an σ β1 β2 κ1 κ2 q γ e h => ?_, fun an σ β κ γ γ' φ hφ e hκ => ?_⟩
    · split
      · split
        · split
          · exact hx.n1 _ _ _ _ _ _ q _ _ h
          · exact hy.n1 _ _ _ _ _ _ q _ _ h
          · split
            · exact hx.n1 _ _ _ _ _ _ q _ _ h
            · exact hy.n1 _ _ _ _ _ _ q _ _ h
          · exact congr (congrArg agree (hx.n1 _ _ _ _ _ _ q _ _ h)) (hy.n1 _ _ _ _ _ _ q _ _ h)
          · exact hx.n1 _ _ _ _ _ _ q _ _ h
          · exact hy.n1 _ _ _ _ _ _ q _ _ h
          · rfl
        · rfl
      · exact hx.n1 _ _ _ _ _ _ q _ _ h
      · exact hy.n1 _ _ _ _ _ _ q _ _ h
      · rfl
    · split
      · split
        · split
          · exact hx.n3 _ _ _ _ _ _ φ hφ _ hκ
          · exact hy.n3 _ _ _ _ _ _ φ hφ _ hκ
          · split
            · exact hx.n3 _ _ _ _ _ _ φ hφ _ hκ
            · exact hy.n3 _ _ _ _ _ _ φ hφ _ hκ
          · exact agree_map hφ (hx.n3 _ _ _ _ _ _ φ hφ _ hκ) (hy.n3 _ _ _ _ _ _ φ hφ _ hκ)
          · exact hx.n3 _ _ _ _ _ _ φ hφ _ hκ
          · exact hy.n3 _ _ _ _ _ _ φ hφ _ hκ
          · rfl
        · rfl
      · exact hx.n3 _ _ _ _ _ _ φ hφ _ hκ
      · exact hy.n3 _ _ _ _ _ _ φ hφ _ hκ
      · rfl)
  | .block id body => wj_nw (by
    have hx := evC_nw body
    refine ⟨fun an σ β1 β2 κ1 κ2 q γ e h => ?_, fun an σ β κ γ γ' φ hφ e hκ => ?_⟩
    · exact hx.n1 _ _ _ _ _ _ q _ _ fun δ e' ex σ' => by
        cases ex with
        | normal => exact h _ _ _ _
        | ret => exact h _ _ _ _
        | exit n => simp only [kB]; split <;> exact h _ _ _ _
    · exact hx.n3 _ _ _ _ _ _ φ hφ _ (kB_nk hκ))
  | .scope body => wj_nw (by
    have hx := evC_nw body
    exact ⟨fun an σ β1 β2 κ1 κ2 q γ e h => hx.n1 _ _ _ _ _ _ q _ _ h, fun an σ β κ γ γ' φ hφ e hκ => hx.n3 _ _ _ _ _ _ φ hφ _ hκ⟩)
  | .loop body => wj_nw (by
    have hx := evC_nw body
    refine ⟨fun an σ β1 β2 κ1 κ2 q γ e h => ?_, fun an σ β κ γ γ' φ hφ e hκ => ?_⟩
    · split
      · rename_i J a
        rw [kJ_eq h]
      · rfl
    · split
      · rename_i J a
        refine bind_map' fun z0 => Iter_map (fun z => ?_) z0
        split
        · exact kJ_map (tb := tb) hx (J := J.at_ (.loop body) σ.fb) hφ hκ
        · rfl
      · rfl)
  | .region _ ops draw => wj_nw (by
    refine ⟨fun an σ β1 β2 κ1 κ2 q γ e h => ?_, fun an σ β κ γ γ' φ hφ e hκ => ?_⟩
    · simp only [h]
    · refine evOps_nat fun σ' lg => ?_
      split
      · exact hκ _ _ _ hφ _ _ _
      · rfl)
  | .rangeFunc g ps x y => wj_nw ⟨fun an σ β1 β2 κ1 κ2 q γ e h => by
      split
      · split
        · congr 1
          funext r
          split
          · exact rangeEnd_eq h
          · rfl
        · rfl
      · rfl, fun an σ β κ γ γ' φ hφ e hκ => by
      split
      · split
        · rw [callK_nat (k := fun r => _), callK_nat (γ := γ) (k := fun r => _)]
          refine bind_map' fun r => ?_
          split
          · exact rangeEnd_map hφ hκ
          · rfl
        · rfl
      · rfl⟩
  | .goto _ => ⟨fun _ _ _ _ _ _ _ _ _ _ => rfl, fun _ _ _ _ _ _ _ _ _ _ => rfl⟩
  | .refuse _ => ⟨fun _ _ _ _ _ _ _ _ _ _ => rfl, fun _ _ _ _ _ _ _ _ _ _ => rfl⟩
def codeOk (n : Nat) : Code → Bool
  | .rangeFunc _ _ _ _ => true
  | .seq x y => codeOk n x && codeOk n y
  | .cond _ x y => codeOk n x && codeOk n y
  | .block _ x => codeOk n x
  | .scope x => codeOk n x
  | .loop x => codeOk n x
  | .region _ ops d => ops.toList.all (dstOk n) && (!d || D.tidy ops n)
  | _ => true
def rangesOf : Code → List (Array Nat × Code × Code)
  | .seq x y => rangesOf x ++ rangesOf y
  | .cond _ x y => rangesOf x ++ rangesOf y
  | .block _ x => rangesOf x
  | .scope x => rangesOf x
  | .loop x => rangesOf x
  | .rangeFunc _ ps x y => [(ps, x, y)]
  | _ => []
def RgOK (K : TbOK tb) (f n : Nat) (c : Code) : Prop := ∀ r ∈ rangesOf c, K.rg (f * 1000 + rgId r.2.1) = some ⟨r.1.toList, r.2.1, r.2.2, n⟩
def toEx : Exi → Exit
  | .normal => .normal
  | .ret => .ret
  | .exit n => .exit n
def Cx.ok (rr : Option Nat) (ds : Cx) : Prop := match rr with
  | none => ∃ Ds, ds = ⟨dms Ds, [.defs Ds]⟩
  | some _ => ds = ⟨[], []⟩
section
variable (P : Program) (K : TbOK tb) (tt : TypeId → Option (TI S)) (Φ : List (Ctr S)) (fa : FA) (n : Nat) (B : List Nat) (m0 : Mem) (rb : Nat → Option Gh) (rr : Option Nat)
def DrawOK (ds : Cx) : Prop := ∀ (id : Nat) (ops : Array Oper) (γ : Type) (κ : AS S → Option γ) (z : γ) (σ : AS S) (g : GG S) (a : Act) (m : Mem) (L : List Ent) (Q : Exit → Act → World → Prop),
  evOps tb tt Φ fa ops ops.toList 0 σ [] (fun σ' lg => match !true || (logOk ops lg && nodupB (σ'.ob.map (·.1))) with | true => κ σ' | false => none) = some z → codeOk n (.region id ops true) = true → Inv K n ds B m0 rb σ g a m L →
  (∀ σ' g' a' m' L', κ σ' = some z → GE g g' → Le m m' → Inv K n ds B m0 rb σ' g' a' m' L' → Q .normal a' m'.w) → (Code.region id ops true).wpIn (FW rr) 0 P Q a m.w
def Snd (c : Code) (f : W S) : Prop := ∀ (an : An) (σ : AS S) (β : Type) (κ : Kp S β) (γ : Type) (emb : β → γ) (z : γ) (g : GG S) (a : Act) (m : Mem) (L : List Ent) (Q : Exit → Act → World → Prop) (ds : Cx), ds.ok rr → NK κ → f an σ β κ γ emb = some z → Inv K n ds B m0 rb σ g a m L →
  (∀ ex σ' g' a' m' L' (ds' : Cx), ds'.ok rr → κ γ emb ex σ' = some z → GE g g' → Le m m' → Inv K n ds' B m0 rb σ' g' a' m' L' → Q (toEx ex) a' m'.w) → c.wpIn (FW rr) 0 P Q a m.w
end
section
variable {n : Nat} {ds : Cx} {B : List Nat} {m0 : Mem} {rb : Nat → Option Gh} {rr : Option Nat}
theorem kJ_in {J : JA} {σ σ' : AS S} {β γ : Type} {κ : Kp S β} {emb : β → γ} {ex : Exi} {u : HT S J.ls} (hκ : NK κ) (h : kJ tb J σ κ emb (HT S J.ls ⊕ γ) id ex σ' = some (.inl u)) : ex = .normal ∧ pack tb J σ σ' = some u := by
  cases ex with
  | normal =>
    obtain ⟨v, hv, he⟩ := Option.bind_eq_some_iff.1 h
    have := Option.some.inj he
    simp only [id] at this
    cases this
    exact ⟨rfl, hv⟩
  | ret =>
    have h1 := hκ γ (HT S J.ls ⊕ γ) .inr inj_inr emb .ret σ'
    have h2 : κ (HT S J.ls ⊕ γ) (fun b => .inr (emb b)) .ret σ' = some (.inl u) := h
    rw [h1] at h2
    obtain ⟨_, _, h3⟩ := Option.map_eq_some_iff.1 h2
    cases h3
  | exit k =>
    have h1 := hκ γ (HT S J.ls ⊕ γ) .inr inj_inr emb (.exit k) σ'
    have h2 : κ (HT S J.ls ⊕ γ) (fun b => .inr (emb b)) (.exit k) σ' = some (.inl u) := h
    rw [h1] at h2
    obtain ⟨_, _, h3⟩ := Option.map_eq_some_iff.1 h2
    cases h3
theorem kJ_out {J : JA} {σ σ' : AS S} {β γ : Type} {κ : Kp S β} {emb : β → γ} {ex : Exi} {r : γ} (hκ : NK κ) (h : kJ tb J σ κ emb (HT S J.ls ⊕ γ) id ex σ' = some (.inr r)) : κ γ emb ex σ' = some r ∧ ex ≠ .normal := by
  cases ex with
  | normal =>
    obtain ⟨v, hv, he⟩ := Option.bind_eq_some_iff.1 h
    have := Option.some.inj he
    simp only [id] at this
    cases this
  | ret =>
    have h1 := hκ γ (HT S J.ls ⊕ γ) .inr inj_inr emb .ret σ'
    have h2 : κ (HT S J.ls ⊕ γ) (fun b => .inr (emb b)) .ret σ' = some (.inr r) := h
    rw [h1] at h2
    obtain ⟨_, h4, h3⟩ := Option.map_eq_some_iff.1 h2
    cases h3
    exact ⟨h4, fun e => by cases e⟩
  | exit k =>
    have h1 := hκ γ (HT S J.ls ⊕ γ) .inr inj_inr emb (.exit k) σ'
    have h2 : κ (HT S J.ls ⊕ γ) (fun b => .inr (emb b)) (.exit k) σ' = some (.inr r) := h
    rw [h1] at h2
    obtain ⟨_, h4, h3⟩ := Option.map_eq_some_iff.1 h2
    cases h3
    exact ⟨h4, fun e => by cases e⟩
theorem then_ne {next : Act → World → Prop} {Q : Exit → Act → World → Prop} {ex : Exi} {a : Act} {w : World} (h : ex ≠ .normal) (hq : Q (toEx ex) a w) : Exit.then next Q (toEx ex) a w := by
  cases ex with
  | normal => exact absurd rfl h
  | ret => exact hq
  | exit k => exact hq
theorem wj0_ok {c : Code} {f : W S} (hf : Snd P K n B m0 rb rr c f) : Snd P K n B m0 rb rr c (wj0 tb c f) := by
  intro an σ β κ γ emb z g a m L Q ds hds hκ h hI hQ
  unfold wj0 at h
  split at h
  · rename_i J an'
    split at h
    · obtain ⟨u, hu, h1⟩ := Option.bind_eq_some_iff.1 h
      split at h1
      · rename_i σ1 h2
        refine w_join (fun a' w' => ∃ σ' g' m' L' ds', ds'.ok rr ∧ m'.w = w' ∧ pack tb (J.at_ c σ.fb) σ σ' = some u ∧ GE g g' ∧ Le m m' ∧ Inv K n ds' B m0 rb σ' g' a' m' L') ?_ ?_
        · rintro a' w' ⟨σ', g', m', L', ds', hds', rfl, k1, k2, k3, k4⟩
          obtain ⟨g1, m1, L1, hw, hle1, k5, k6⟩ := join_ok hI k4 k2 k3 k1 h2
          rw [← hw]
          exact hQ .normal σ1 g1 a' m1 L1 ds' hds' h1 k5 hle1 k6
        · refine hf an' σ (HT S J.ls) (kN tb (J.at_ c σ.fb) σ) (HT S J.ls) id u g a m L _ ds hds kN_nk hu hI fun ex σ' g' a' m' L' ds' hds' k1 k2 k3 k4 => ?_
          cases ex with
          | normal =>
            obtain ⟨v, hv, he⟩ := Option.bind_eq_some_iff.1 k1
            have := Option.some.inj he
            simp only [id] at this
            subst this
            exact ⟨σ', g', m', L', ds', hds', rfl, hv, k2, k3, k4⟩
          | ret => cases k1
          | exit _ => cases k1
      · cases h1
    · obtain ⟨zz, hu, h1⟩ := Option.bind_eq_some_iff.1 h
      cases zz with
      | inl u =>
        have h1' : (match unpack tb (J.at_ c σ.fb) σ u with | some σ1 => κ γ emb .normal σ1 | none => none) = some z := h1
        split at h1'
        · rename_i σ1 h2
          refine w_join (fun a' w' => ∃ σ' g' m' L' ds', ds'.ok rr ∧ m'.w = w' ∧ pack tb (J.at_ c σ.fb) σ σ' = some u ∧ GE g g' ∧ Le m m' ∧ Inv K n ds' B m0 rb σ' g' a' m' L') ?_ ?_
          · rintro a' w' ⟨σ', g', m', L', ds', hds', rfl, k1, k2, k3, k4⟩
            obtain ⟨g1, m1, L1, hw, hle1, k5, k6⟩ := join_ok hI k4 k2 k3 k1 h2
            rw [← hw]
            exact hQ .normal σ1 g1 a' m1 L1 ds' hds' h1' k5 hle1 k6
          · refine hf an' σ (HT S J.ls ⊕ γ) (kJ tb (J.at_ c σ.fb) σ κ emb) (HT S J.ls ⊕ γ) id (.inl u) g a m L _ ds hds (kJ_nk hκ) hu hI fun ex σ' g' a' m' L' ds' hds' k1 k2 k3 k4 => ?_
            obtain ⟨rfl, k5⟩ := kJ_in (J := J.at_ c σ.fb) hκ k1
            exact ⟨σ', g', m', L', ds', hds', rfl, k5, k2, k3, k4⟩
        · cases h1'
      | inr r =>
        have h1' : some r = some z := h1
        have h1' := Option.some.inj h1'
        rw [h1'] at hu
        clear h1
        refine hf an' σ (HT S J.ls ⊕ γ) (kJ tb (J.at_ c σ.fb) σ κ emb) (HT S J.ls ⊕ γ) id (.inr z) g a m L _ ds hds (kJ_nk hκ) hu hI fun ex σ' g' a' m' L' ds' hds' k1 k2 k3 k4 => ?_
        exact hQ ex σ' g' a' m' L' ds' hds' (kJ_out (J := J.at_ c σ.fb) hκ k1).1 k2 k3 k4
  · exact hf an σ β κ γ emb z g a m L Q ds hds hκ h hI hQ
variable {σ σ1 : AS S} {a : Act} {L : List Ent} {g : GG S} {m : Mem}
theorem wj_ok {c : Code} {f : W S} (hf : Snd P K n B m0 rb rr c f) : Snd P K n B m0 rb rr c (wj tb c f) := by
  intro an σ β κ γ emb z g a m L Q ds hds hκ h hI hQ
  unfold wj at h
  split at h
  · split at h
    · rename_i σ1 h1
      obtain ⟨g1, m1, L1, hw, hle, k1, k2⟩ := prep_ok hI h1
      rw [← hw]
      exact wj0_ok hf _ σ1 β κ γ emb z g1 a m1 L1 Q ds hds hκ h k2 fun ex σ' g' a' m' L' ds' hds' j1 j2 j3 j4 => hQ ex σ' g' a' m' L' ds' hds' j1 (k1.trans j2) (hle.trans j3) j4
    · cases h
  · exact wj0_ok hf _ σ β κ γ emb z g a m L Q ds hds hκ h hI hQ
theorem w_rangeC {Q : Exit → Act → World → Prop} {gop : Operand} {ps : Array Tmp} {asg body : Code} {gf : FuncId} {cap : List Value} {Ds : List Nat} {X : List Ent} (hd : a.defers = dms Ds) (hS : St B m0 m (X ++ [.defs Ds])) (hg : a.eval gop = .func (.func gf) #[] cap.toArray)
    (h : ∀ l D R m1, Le m m1 → IsRec R ps a.tmps asg body → St B m0 m1 (.obj l (.loop (R .ready none)) :: (X ++ [.defs (D :: Ds)])) → Enters P gf ∧ Calls P gf (.func (.yield l) #[] #[] :: cap).toArray m1.w fun e w' => ∃ v, e = .returned v ∧ ∃ jump w'', (Instr.endLoop l).run P w' = .ok jump w'' ∧
      (match jump with | none => Q .normal { a with defers := dms (D :: Ds) } w'' | some c => c.wpIn (FW none) 0 P Q { a with defers := dms (D :: Ds) } w'')) : (Code.rangeFunc gop ps asg body).wpIn (FW none) 0 P Q a m.w := by
  refine wpIn_rangeFunc fun fn _ => ?_
  have s1 : St B m0 m (.defs Ds :: X) := hS.perm List.perm_append_comm
  have s2 := s1.newObj (.deferred (some []))
  have s3 := s2.two (e := .defs (m.w.heap.size :: Ds)) rfl (fun h1 h2 D hD => by
    simp at hD
    rcases hD with rfl | hD
    · exact h1
    · exact h2 D hD) (fun _ _ _ => trivial) (fun _ _ _ => trivial)
  let rec_ : LoopState → Option Code → Loop := fun st pe => { state := st, pending := pe, fn := fn, tmps := a.tmps, params := ps, assign := asg, body := body, defers := m.w.heap.size }
  have s4 := s3.newObj (.loop (rec_ .ready none))
  have hl : (m.w.alloc (.deferred (some []))).heap.size = m.w.heap.size + 1 := World.size_alloc _ _
  have hle1 : Le m ⟨(m.w.alloc (.deferred (some []))).alloc (.loop (rec_ .ready none)), _⟩ := (Le.alloc m (.deferred (some []))).trans (Le.alloc _ (.loop (rec_ .ready none)))
  simp only [hl] at s4
  obtain ⟨hen, hcall⟩ := h (m.w.heap.size + 1) m.w.heap.size rec_ _ hle1 ⟨fn, m.w.heap.size, rfl⟩ (s4.perm (List.Perm.cons _ (List.perm_append_comm (l₁ := [Ent.defs (m.w.heap.size :: Ds)]))))
  have hargs : (#[.func (.yield (m.w.heap.size + 1)) #[] #[]] ++ cap.toArray : Array Value) = (.func (.yield (m.w.heap.size + 1)) #[] #[] :: cap).toArray := by simp
  refine ⟨m.w.heap.size + 1, [{ target := .collected m.w.heap.size, args := #[] }], (m.w.alloc (.deferred (some []))).alloc (.loop (rec_ .ready none)), { target := .fn (.func gf) cap.toArray, args := #[.func (.yield (m.w.heap.size + 1)) #[] #[]] },
    (m.w.alloc (.deferred (some []))).alloc (.loop (rec_ .ready none)), gf, #[.func (.yield (m.w.heap.size + 1)) #[] #[]] ++ cap.toArray, (m.w.alloc (.deferred (some []))).alloc (.loop (rec_ .ready none)), run_enterLoop_outer _ _ _ _ _, ?_, fun _ _ => trivial, ?_, fun h => by simp [FW] at h, ?_⟩
  · simp only [resolve, hg]
    simp [go_sem]
  · simp only [invoke]; exact hen _ _
  · rw [hargs]
    refine (calls_in none hcall).mono ?_
    rintro e w ⟨v, rfl, jump, w', hend, hx⟩
    refine ⟨jump, w', hend, ?_⟩
    have hdd : ({ a with defers := [{ target := .collected m.w.heap.size, args := #[] }] ++ a.defers } : Act) = { a with defers := dms (m.w.heap.size :: Ds) } := by rw [hd]; rfl
    rw [hdd]
    cases jump <;> exact hx
theorem Inv.acted {ds ds' : Cx} {a' : Act} (hI : Inv K n ds B m0 rb σ g a m L) (ht : a'.tmps = a.tmps) (hd : a'.defers = ds'.d) (hS : St B m0 m (L ++ ds'.X)) : Inv K n ds' B m0 rb σ g a' m L := by
  have he : ∀ t, a'.eval (.tmp t) = a.eval (.tmp t) := fun t => by simp only [Act.eval, ht]
  exact ⟨by rw [ht]; exact hI.size, hd, fun t vid v h => by rw [he]; exact hI.at_ t vid v h, hI.tm, hI.ob, hS, hI.fresh, hI.rt⟩
theorem range_ok (hT : TTOK P K tt) (hΦ : ∀ c ∈ Φ, Sound P K c) {gop : Operand} {ps : Array Nat} {x y : Code} {f : FuncId} {caps : List (CV S)} {r : Nat} {γ : Type} {z : γ} {β : Type} {κ : Kp S β} {emb : β → γ} {Q : Exit → Act → World → Prop} {ds : Cx}
    (hds : ds.ok none) (hI : Inv K n ds B m0 rb σ g a m L) (hfb : σ.fb = 0) (hop : opdAV tt σ 0 gop = some (.one (.fn (.func f) [] caps))) (hf : f ≤ 999999) (hrg : K.rg r = some ⟨ps.toList, x, y, n⟩)
    (h : callK tb f (.one (.yl (σ.ct + 1)) :: caps.map .one) (rangeSt σ (.loop r .ready σ.tm)).ob (σ.ct + 64) (fun r' => match nodupB (r'.rd ++ r'.rm) with | true => rangeEnd (σ.ct + 1) ((rangeSt σ (.loop r .ready σ.tm)).upd none none r') κ emb | false => none) Φ = some z)
    (hQ : ∀ ex σ' g' a' m' L' (ds' : Cx), ds'.ok none → κ γ emb ex σ' = some z → GE g g' → Le m m' → Inv K n ds' B m0 rb σ' g' a' m' L' → Q (toEx ex) a' m'.w) : (Code.rangeFunc gop ps x y).wpIn (FW none) 0 P Q a m.w := by
  obtain ⟨Ds, rfl⟩ := hds
  have hop' := opdAV_ok hT hI hop
  simp only [avR, cvR] at hop'
  obtain ⟨v1, v2, e1, e2, e3⟩ := hop'
  simp only [cv1R] at e2
  subst e2
  simp only [List.cons.injEq, and_true] at e1
  obtain ⟨res, h1, h2, h4⟩ := callK_ok hΦ h
  split at h1
  case h_2 => cases h1
  case h_1 hn =>
  refine w_rangeC (X := L) hI.defers hI.st e1 fun l D R m1 hle hR hS => ?_
  let e0 : Ent := .obj l (.loop (R .ready none))
  let g1 : GG S := { bk := fun i => if i = σ.ct + 1 then some ⟨some l, none, 0, 0⟩ else g.bk i, vv := g.vv, oo := fun i => if i = σ.ct + 32 then some (.loop r .ready σ.tm, e0) else g.oo i }
  have ge1 : GE g g1 := ⟨fun i y hy => by
      show (if i = σ.ct + 1 then _ else g.bk i) = _
      rw [if_neg fun e => by rw [e, (hI.fresh _ (by omega)).1] at hy; cases hy]; exact hy, fun _ _ h => h, fun i y hy => by
      show (if i = σ.ct + 32 then _ else g.oo i) = _
      rw [if_neg fun e' => by rw [e', (hI.fresh _ (by omega)).2.2] at hy; cases hy]; exact hy⟩
  have hb1 : g1.bk (σ.ct + 1) = some ⟨some l, none, 0, 0⟩ := if_pos rfl
  have hobj : objR K g1 m1 (σ.ct + 1) (.loop r .ready σ.tm) e0 := ⟨_, l, R, _, a.tmps, hb1, rfl, hrg, rfl, by simpa using hR, hI.size, fun t vid v hl => by
    have h5 := hI.at_ t vid v (by rw [hfb, Nat.zero_add]; exact hl)
    obtain ⟨u, h6, h7⟩ := hI.tm t vid v hl
    rw [h5] at h6
    have h6 := Option.some.inj h6
    subst h6
    exact h7.mono ge1 hle⟩
  let a1 : Act := { a with defers := dms (D :: Ds) }
  let ds1 : Cx := ⟨dms (D :: Ds), [.defs (D :: Ds)]⟩
  have hI1 : Inv K n ds1 B m0 rb (rangeSt σ (.loop r .ready σ.tm)) g1 a1 m1 (e0 :: L) := by
    refine ⟨hI.size, rfl, fun t vid v h => hI.at_ t vid v h, fun s vid v h => ?_, ⟨e0, L, rfl, if_pos rfl, hobj, hI.ob.mono ge1 hle⟩, hS, fun i hi => ⟨?_, ?_, ?_⟩, ⟨hI.rt.1, fun j q hj => ?_⟩⟩
    · obtain ⟨u, k1, k2⟩ := hI.tm s vid v h
      exact ⟨u, k1, k2.mono ge1 hle⟩
    · have hi : σ.ct + 64 ≤ i := hi
      show (if i = σ.ct + 1 then _ else g.bk i) = _
      rw [if_neg (by omega)]; exact (hI.fresh i (by omega)).1
    · have hi : σ.ct + 64 ≤ i := hi
      exact (hI.fresh i (by omega)).2.1
    · have hi : σ.ct + 64 ≤ i := hi
      show (if i = σ.ct + 32 then _ else g.oo i) = _
      rw [if_neg (by omega)]; exact (hI.fresh i (by omega)).2.2
    · obtain ⟨h, k1, k2⟩ := hI.rt.2 j q hj
      exact ⟨h, k1, ge1.bk _ _ k2⟩
  obtain ⟨Lr, Lm, Lz, R', Y, q1, q2, q3, p1, p2⟩ := ob_split hI1.ob (nodupB_ok hn)
  have hOw : Ow m1 (Lr ++ Lm) := (hI1.st.ow.left.perm p1).left
  have key := h4 g1 m1 (.func (.yield l) #[] #[] :: v2) Lr Lm (fun i hi _ => hI1.fresh i hi) (K.Bm hI1.rt.1 hI1.st.le) (by
    simp only [avsR]
    refine ⟨_, _, rfl, ?_, avsR_ones (cv1R.mono ge1 hle e3)⟩
    simp only [avR, cvR]
    exact ⟨_, l, hb1, rfl, rfl⟩) q1 q2 hOw
  unfold Does at key
  rw [if_pos hf] at key
  refine ⟨key.1, Calls.mono key.2 fun e w' ⟨v, hv, hDid⟩ => ⟨v, hv, ?_⟩⟩
  obtain ⟨g2, m2, L2, rfl, ge2, hle2, hI2⟩ := upd_ok hI1 (d := none) (mv := none) (fun _ h => by cases h) h2 q3 p1 p2 hDid (fun _ h => by cases h)
  have hap : a1.put none v = a1 := rfl
  rw [hap] at hI2
  unfold rangeEnd at h1
  have fin : ∀ st tm' rr' ver, look (σ.ct + 1) ((rangeSt σ (.loop r .ready σ.tm)).upd none none res).ob = some (ver, .loop rr' st tm') → lsSt st ≠ .busy → ∃ m3 L3, (Instr.endLoop l).run P m2.w = .ok (lsPe st) m3.w ∧ Le m2 m3 ∧ Inv K n ds1 B m0 rb { (rangeSt σ (.loop r .ready σ.tm)).upd none none res with ob := dropO [σ.ct + 1] ((rangeSt σ (.loop r .ready σ.tm)).upd none none res).ob } g2 a1 m3 L3 := fun st tm' rr' ver hlk hst => by
    obtain ⟨e, L0, Rst, ho, hp, hob⟩ := drop_ob (X := []) hI2.ob hlk
    obtain ⟨gh, l', R2, rg, tmps, o1, o2, _, rfl, o5, _, _⟩ := ho
    have hb2 := ge2.bk _ _ hb1
    rw [hb2] at o1
    cases o1
    cases o2
    have s5 : St B m0 m2 (.obj l (.loop (R2 (lsSt st) (lsPe st))) :: ((L0 ++ ds1.X) ++ Rst)) := hI2.st.perm ((hp.append_right _).trans (by
      rw [List.cons_append, List.append_assoc, List.append_assoc]
      exact List.Perm.cons _ (List.Perm.append_left _ List.perm_append_comm)))
    obtain ⟨m3, r1, r2, r3⟩ := run_endL (P := P) (lsSt st) (lsPe st) hst o5 (k := 0) s5 rfl
    have r3 := St.keep r3
    exact ⟨m3, L0, r1, r2, hI2.size, hI2.defers, hI2.at_, fun s vid v h => (let ⟨u, k1, k2⟩ := hI2.tm s vid v h; ⟨u, k1, k2.mono (GE.refl _) r2⟩), hob.mono (GE.refl _) r2, r3, hI2.fresh, hI2.rt⟩
  have hds1 : ds1.ok none := ⟨D :: Ds, rfl⟩
  split at h1
  case h_2 => cases h1
  case h_1 ver rr' st tm' hlk =>
  split at h1
  · obtain ⟨m3, L3, r1, r2, r3⟩ := fin _ _ _ _ hlk (by simp [lsSt])
    exact ⟨none, m3.w, r1, hQ .normal _ g2 a1 m3 L3 ds1 hds1 h1 (ge1.trans ge2) ((hle.trans hle2).trans r2) r3⟩
  · obtain ⟨m3, L3, r1, r2, r3⟩ := fin _ _ _ _ hlk (by simp [lsSt])
    exact ⟨some .ret, m3.w, r1, wpIn_ret (hQ .ret _ g2 a1 m3 L3 ds1 hds1 h1 (ge1.trans ge2) ((hle.trans hle2).trans r2) r3)⟩
  · obtain ⟨m3, L3, r1, r2, r3⟩ := fin _ _ _ _ hlk (by simp [lsSt])
    exact ⟨some (.exit _), m3.w, r1, wpIn_exit (hQ (.exit _) _ g2 a1 m3 L3 ds1 hds1 h1 (ge1.trans ge2) ((hle.trans hle2).trans r2) r3)⟩
  · cases h1
theorem evC_ok (hT : TTOK P K tt) (hΦ : ∀ c ∈ Φ, Sound P K c) (hrr : fa.rd = false → rr = none) (hD : ∀ ds, DrawOK P K tt Φ fa n B m0 rb rr ds) : ∀ c : Code, codeOk n c = true → RgOK K fa.fn n c → Snd P K n B m0 rb rr c (evC tb tt Φ fa c)
  | .skip, _, _ => wj_ok fun an σ β κ γ emb z g a m L Q ds hds hκ h hI hQ => wpIn_skip (hQ .normal σ g a m L ds hds h (GE.refl g) (Le.refl m) hI)
  | .label l, _, _ => by
    have : evC tb tt Φ fa (.label l) = wj tb (.label default) fun _ σ _ κ γ emb => κ γ emb .normal σ := rfl
    rw [this]
    intro an σ β κ γ emb z g a m L Q ds hds hκ h hI hQ
    refine wj_ok (c := .label l) (f := fun _ σ _ κ γ emb => κ γ emb .normal σ) (fun an σ β κ γ emb z g a m L Q ds hds hκ h hI hQ => wpIn_label (hQ .normal σ g a m L ds hds h (GE.refl g) (Le.refl m) hI)) an σ β κ γ emb z g a m L Q ds hds hκ h hI hQ
  | .ret, _, _ => wj_ok fun an σ β κ γ emb z g a m L Q ds hds hκ h hI hQ => wpIn_ret (hQ .ret σ g a m L ds hds h (GE.refl g) (Le.refl m) hI)
  | .exit k, _, _ => wj_ok fun an σ β κ γ emb z g a m L Q ds hds hκ h hI hQ => wpIn_exit (hQ (.exit k) σ g a m L ds hds h (GE.refl g) (Le.refl m) hI)
  | .seq x y, hc, hg => wj_ok (by
    simp only [codeOk, Bool.and_eq_true] at hc
    have hx := evC_ok hT hΦ hrr hD x hc.1 fun r hr => hg r (List.mem_append_left _ hr)
    have hy := evC_ok hT hΦ hrr hD y hc.2 fun r hr => hg r (List.mem_append_right _ hr)
    intro an σ β κ γ emb z g a m L Q ds hds hκ h hI hQ
    refine w_seq (hx an.l1 σ β (kS (evC tb tt Φ fa y) an.r1 κ) γ emb z g a m L _ ds hds (kS_nk (evC_nw y) hκ) h hI fun ex σ' g' a' m' L' ds' hds' k1 k2 k3 k4 => ?_)
    cases ex with
    | normal => exact hy an.r1 σ' β κ γ emb z g' a' m' L' Q ds' hds' hκ k1 k4 fun ex2 σ2 g2 a2 m2 L2 ds2 hds2 j1 j2 j3 j4 => hQ ex2 σ2 g2 a2 m2 L2 ds2 hds2 j1 (k2.trans j2) (k3.trans j3) j4
    | ret => exact hQ .ret σ' g' a' m' L' ds' hds' k1 k2 k3 k4
    | exit k => exact hQ (.exit k) σ' g' a' m' L' ds' hds' k1 k2 k3 k4)
  | .cond c x y, hc, hg => wj_ok (by
    simp only [codeOk, Bool.and_eq_true] at hc
    have hx := evC_ok hT hΦ hrr hD x hc.1 fun r hr => hg r (List.mem_append_left _ hr)
    have hy := evC_ok hT hΦ hrr hD y hc.2 fun r hr => hg r (List.mem_append_right _ hr)
    intro an σ β κ γ emb z g a m L Q ds hds hκ h hI hQ
    simp only at h
    split at h
    · rename_i t
      split at h
      · rename_i vid v hv
        obtain ⟨e1, e2⟩ := hI.slot hv
        simp only [avR] at e2
        split at h
        · simp only [cvR, List.cons.injEq, and_true] at e2
          exact wpIn_cond_true e2 (hx _ σ β κ γ emb z g a m L Q ds hds hκ h hI hQ)
        · simp only [cvR, List.cons.injEq, and_true] at e2
          exact wpIn_cond_false e2 (hy _ σ β κ γ emb z g a m L Q ds hds hκ h hI hQ)
        · rename_i b p d hbp
          simp only [cvR, List.cons.injEq, and_true] at e2
          split at h
          · rename_i hp
            have hb := hbp.2 hp
            subst hb
            exact wpIn_cond_true e2 (hx _ _ β κ γ emb z g a m L Q ds hds hκ h (setB_ok hI (by rw [e1, e2])) hQ)
          · rename_i hp
            have hb : b = false := by cases hb : b with | false => rfl | true => exact absurd (hbp.1 hb) hp
            subst hb
            exact wpIn_cond_false e2 (hy _ _ β κ γ emb z g a m L Q ds hds hκ h (setB_ok hI (by rw [e1, e2])) hQ)
        · simp only [cvR] at e2
          obtain ⟨b, e2, _⟩ := e2
          simp only [List.cons.injEq, and_true] at e2
          obtain ⟨h1, h2⟩ := agree_some h
          cases b with
          | true => exact wpIn_cond_true e2 (hx _ _ β κ γ emb z g a m L Q ds hds hκ h1 (setB_ok hI (by rw [e1, e2])) hQ)
          | false => exact wpIn_cond_false e2 (hy _ _ β κ γ emb z g a m L Q ds hds hκ h2 (setB_ok hI (by rw [e1, e2])) hQ)
        · simp only [cvR] at e2
          obtain ⟨b, e2, hb⟩ := e2
          simp only [List.cons.injEq, and_true] at e2
          cases b with
          | true => exact wpIn_cond_true e2 (hx _ _ β κ γ emb z g a m L Q ds hds hκ h (setB_ok hI (by rw [e1, e2])) hQ)
          | false => exact absurd (hb (by simp)) (by simp)
        · simp only [cvR] at e2
          obtain ⟨b, e2, hb⟩ := e2
          simp only [List.cons.injEq, and_true] at e2
          cases b with
          | true => exact absurd (hb (by simp)) (by simp)
          | false => exact wpIn_cond_false e2 (hy _ _ β κ γ emb z g a m L Q ds hds hκ h (setB_ok hI (by rw [e1, e2])) hQ)
        · cases h
      · cases h
    · exact wpIn_cond_true rfl (hx _ σ β κ γ emb z g a m L Q ds hds hκ h hI hQ)
    · exact wpIn_cond_false rfl (hy _ σ β κ γ emb z g a m L Q ds hds hκ h hI hQ)
    · cases h)
  | .block id body, hc, hg => wj_ok (by
    have hx := evC_ok hT hΦ hrr hD body hc hg
    intro an σ β κ γ emb z g a m L Q ds hds hκ h hI hQ
    refine wpIn_block (hx an.l1 σ β (kB id κ) γ emb z g a m L _ ds hds (kB_nk hκ) h hI fun ex σ' g' a' m' L' ds' hds' k1 k2 k3 k4 => ?_)
    cases ex with
    | normal => exact hQ .normal σ' g' a' m' L' ds' hds' k1 k2 k3 k4
    | ret => exact hQ .ret σ' g' a' m' L' ds' hds' k1 k2 k3 k4
    | exit k =>
      simp only [kB] at k1
      split at k1
      · rename_i he
        obtain rfl := Nat.eq_of_beq_eq_true he
        exact blk_e (hQ .normal σ' g' a' m' L' ds' hds' k1 k2 k3 k4)
      · rename_i he
        exact blk_x (Nat.ne_of_beq_eq_false he) (hQ (.exit k) σ' g' a' m' L' ds' hds' k1 k2 k3 k4))
  | .scope body, hc, hg => wj_ok (by
    have hx := evC_ok hT hΦ hrr hD body hc hg
    intro an σ β κ γ emb z g a m L Q ds hds hκ h hI hQ
    refine w_scope (hx an.l1 σ β κ γ emb z g a m L _ ds hds hκ h hI fun ex σ' g' a' m' L' ds' hds' k1 k2 k3 k4 => ?_)
    have := hQ ex σ' g' a' m' L' ds' hds' k1 k2 k3 k4
    cases ex <;> exact this)
  | .loop body, hc, hg => wj_ok (by
    have hx := evC_ok hT hΦ hrr hD body hc hg
    intro an σ β κ γ emb z g a m L Q ds hds hκ h hI hQ
    simp only at h
    split at h
    · rename_i J an'
      obtain ⟨z0, hz0, h1⟩ := Option.bind_eq_some_iff.1 h
      refine w_loopL h1 (fun u a' w' => ∃ ds', ds'.ok rr ∧ ∀ σ1, unpack tb (J.at_ (.loop body) σ.fb) σ u = some σ1 → ∃ g1 m1 L1, m1.w = w' ∧ Le m m1 ∧ GE g g1 ∧ Inv K n ds' B m0 rb σ1 g1 a' m1 L1) ⟨ds, hds, fun σ1 h2 => ?_⟩ ?_
      · exact join_ok hI hI (GE.refl g) (Le.refl m) hz0 h2
      · rintro k u x a' w' ⟨ds', hds', j2⟩ hx1 hn
        split at hx1
        · rename_i σ1 h2
          obtain ⟨g1, m', L1, hw', j1, j3, j4⟩ := j2 σ1 h2
          rw [← hw']
          refine hx an' σ1 (HT S J.ls ⊕ γ) (kJ tb (J.at_ (.loop body) σ.fb) σ κ emb) (HT S J.ls ⊕ γ) id x g1 a' m' L1 _ ds' hds' (kJ_nk hκ) hx1 j4 fun ex σ' g' a2 m2 L2 ds2 hds2 k1 k2 k3 k4 => ?_
          cases x with
          | inl u' =>
            obtain ⟨rfl, k5⟩ := kJ_in (J := J.at_ (.loop body) σ.fb) hκ k1
            refine then_n (loop_go (I := (fun u a' w' => ∃ ds', ds'.ok rr ∧ ∀ σ1, unpack tb (J.at_ (.loop body) σ.fb) σ u = some σ1 → ∃ g1 m1 L1, m1.w = w' ∧ Le m m1 ∧ GE g g1 ∧ Inv K n ds' B m0 rb σ1 g1 a' m1 L1)) hn ⟨ds2, hds2, fun σ2 h3 => ?_⟩)
            exact join_ok hI k4 (j3.trans k2) (j1.trans k3) k5 h3
          | inr r =>
            obtain ⟨k5, k6⟩ := kJ_out (J := J.at_ (.loop body) σ.fb) hκ k1
            have : r = z := hn
            subst this
            exact then_ne k6 (hQ ex σ' g' a2 m2 L2 ds2 hds2 k5 (j3.trans k2) (j1.trans k3) k4)
        · cases hx1
    · cases h)
  | .region id ops draw, hc, _ => by
    intro an σ β κ γ emb z g a m L Q ds hds hκ h hI hQ
    refine wj_ok (c := .region id ops draw) (f := fun _ σ _ κ γ emb => evOps tb tt Φ fa ops ops.toList 0 σ [] fun σ' lg => match !draw || (logOk ops lg && nodupB (σ'.ob.map (·.1))) with
      | true => κ γ emb .normal σ'
      | false => none) (fun an σ β κ γ emb z g a m L Q ds hds hκ h hI hQ => ?_) an σ β κ γ emb z g a m L Q ds hds hκ h hI hQ
    cases draw with
    | true => exact hD ds id ops γ (fun σ' => κ γ emb .normal σ') z σ g a m L Q h hc hI fun σ' g' a' m' L' k1 k2 k3 k4 => hQ .normal σ' g' a' m' L' ds hds k1 k2 k3 k4
    | false =>
      simp only [codeOk, Bool.and_eq_true] at hc
      exact w_region (evOps_ok hT hΦ h hc.1 hI fun σ' lg g' a' m' L' k1 k2 k3 k4 => hQ .normal σ' g' a' m' L' ds hds k1 k2 k3 k4)
  | .rangeFunc gop ps x y, _, hg => wj_ok fun an σ β κ γ emb z g a m L Q ds hds hκ h hI hQ => by
    split at h
    · rename_i f caps hrd hfb hop
      split at h
      · rename_i hf
        obtain rfl := hrr hrd
        exact range_ok hT hΦ hds hI hfb hop (Nat.le_of_ble_eq_true hf) (hg (ps, x, y) List.mem_cons_self) h hQ
      · cases h
    · cases h
  | .goto _, _, _ => fun an σ β κ γ emb z g a m L Q ds hds hκ h hI hQ => by cases h
  | .refuse _, _, _ => fun an σ β κ γ emb z g a m L Q ds hds hκ h hI hQ => by cases h
end
end E
end Go.Proofs.Ythhmandpjlggcaa
