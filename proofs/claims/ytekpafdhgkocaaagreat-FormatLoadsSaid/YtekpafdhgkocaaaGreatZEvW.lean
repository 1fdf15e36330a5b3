/- Part of what the laws need: plain words, the walker and its laws, the program's functions. -/
import Derived.Test.YtekpafdhgkocaaaGreatZEvV
import Derived.Test.YtekpafdhgkocaaaGreatZMore
namespace Go.Proofs.YtekpafdhgkocaaaGreat
open Go.RowKit G
namespace E
variable {S : Nat → Type} {tb : Tb S} {K : cV tb} {P : Program} {tt : TypeId → Option (TI S)} {Φ : List (bO S)} {fa : FA S}
def Gs {γ γ' : Type} (φ : γ → γ') : Prop := ∀ x y, φ x = φ y → x = y
theorem wc {α β : Type} : Gs (Sum.inr : β → α ⊕ β) := fun _ _ h => Sum.inr.inj h
theorem Ek {α β γ : Type} {φ : β → γ} (h : Gs φ) : Gs (Sum.map (id : α → α) φ) := fun x y e => by
 cases x <;> cases y <;> simp_all
 exact h _ _ e
theorem E6 {γ γ' : Type} {φ : γ → γ'} (hφ : Gs φ) {a b : Option γ} {a' b' : Option γ'} (ha : a' = a.map φ) (hb : b' = b.map φ) : qB a' b' = (qB a b).map φ := by
 subst ha; subst hb
 unfold qB
 by_cases h : a = b
 · subst h; rw [if_pos rfl, if_pos rfl]
 · rw [if_neg h, if_neg fun e => h (by
    cases a <;> cases b <;> simp_all
    exact h (hφ _ _ e))]; rfl
theorem CN {γ : Type} {a b : Option γ} {z : γ} (h : qB a b = some z) : a = some z ∧ b = some z := by
 unfold qB at h
 split at h
 · rename_i e; subst e; exact ⟨h, h⟩
 · cases h
def NK {β : Type} (κ : Kp S β) : Prop := ∀ (γ γ' : Type) (φ : γ → γ') (_ : Gs φ) (e : β → γ) (ex : Gp) (σ : AS S), κ γ' (fun b => φ (e b)) ex σ = (κ γ e ex σ).map φ
structure NW (f : W S) : Prop where
 n1 : ∀ (an : An) (σ : AS S) (β1 β2 : Type) (κ1 : Kp S β1) (κ2 : Kp S β2) (q : β1 → β2) (γ : Type) (e : β2 → γ), (∀ (δ : Type) (e : β2 → δ) ex σ, κ2 δ e ex σ = κ1 δ (fun b => e (q b)) ex σ) → f an σ β2 κ2 γ e = f an σ β1 κ1 γ (fun b => e (q b))
 n3 : ∀ (an : An) (σ : AS S) (β : Type) (κ : Kp S β) (γ γ' : Type) (φ : γ → γ') (_ : Gs φ) (e : β → γ), NK κ → f an σ β κ γ' (fun b => φ (e b)) = (f an σ β κ γ e).map φ
theorem GH {σ A B : Type} {f : σ → Option (σ ⊕ A)} {f' : σ → Option (σ ⊕ B)} {φ : A → B} (h : ∀ s, f' s = (f s).map (Sum.map id φ)) (s : σ) : Iter f' s = (Iter f s).map φ := by
 have key : ∀ (k : Nat) (s : σ) (r : B), kV f' k s r ↔ ∃ r0, kV f k s r0 ∧ φ r0 = r := fun k => by
  induction k with
  | zero => intro s r; exact ⟨fun h => h.elim, fun ⟨_, h, _⟩ => h.elim⟩
  | succ k ih =>
    intro s r
    constructor
    · rintro ⟨x, hx, hr⟩
      rw [h] at hx
      obtain ⟨y, hy, rfl⟩ := Option.map_eq_some_iff.1 hx
      cases y with
      | inl s' => obtain ⟨r0, h1, h2⟩ := (ih s' r).1 hr; exact ⟨r0, ⟨_, hy, h1⟩, h2⟩
      | inr a => exact ⟨a, ⟨_, hy, rfl⟩, hr⟩
    · rintro ⟨r0, ⟨x, hx, hr⟩, rfl⟩
      refine ⟨Sum.map id φ x, by rw [h, hx]; rfl, ?_⟩
      cases x with
      | inl s' => exact (ih s' _).2 ⟨r0, hr, rfl⟩
      | inr a => show φ a = φ r0; rw [show a = r0 from hr]
 refine Option.ext fun r => ?_
 rw [gP, Option.map_eq_some_iff]
 constructor
 · rintro ⟨k, hk⟩
   obtain ⟨r0, h1, h2⟩ := (key k s r).1 hk
   exact ⟨r0, gP.2 ⟨k, h1⟩, h2⟩
 · rintro ⟨r0, h1, h2⟩
   obtain ⟨k, hk⟩ := gP.1 h1
   exact ⟨k, (key k s r).2 ⟨r0, hk, h2⟩⟩
theorem cb {α β γ : Type} {x : Option α} {f : α → Option β} {φ : β → γ} {f' : α → Option γ} (h : ∀ a, f' a = (f a).map φ) : x.bind f' = (x.bind f).map φ := by cases x; rfl; exact h _
theorem FM {α β γ δ : Type} {x : Option α} {q : α → β} {f : β → Option δ} {f' : α → Option γ} {φ : γ → δ} (h : ∀ a, f (q a) = (f' a).map φ) : (x.map q).bind f = (x.bind f').map φ := by cases x; rfl; exact h _
theorem OC {J : JA} {σ : AS S} : NK (kN tb J σ) := fun δ δ' ψ hψ e ex σ' => by
 cases ex with
 | normal => exact cb fun z => rfl
 | ret => rfl
 | exit n => rfl
theorem En {J : JA} {σ : AS S} {β γ : Type} {κ : Kp S β} {emb : β → γ} (hκ : NK κ) : NK (kJ tb J σ κ emb) := fun δ δ' ψ hψ e ex σ' => by
 cases ex with
 | normal => exact cb fun z => rfl
 | ret => exact hκ _ _ _ hψ _ _ _
 | exit n => exact hκ _ _ _ hψ _ _ _
theorem Lv {β : Type} {id : Nat} {κ : Kp S β} (hκ : NK κ) : NK (kB id κ) := fun δ δ' ψ hψ e ex σ' => by
 cases ex with
 | normal => exact hκ _ _ _ hψ _ _ _
 | ret => exact hκ _ _ _ hψ _ _ _
 | exit n => simp only [kB]; split <;> exact hκ _ _ _ hψ _ _ _
theorem Ly {β : Type} {f : W S} {an : An} {κ : Kp S β} (hf : NW f) (hκ : NK κ) : NK (kS f an κ) := fun δ δ' ψ hψ e ex σ' => by
 cases ex with
 | normal => exact hf.n3 _ _ _ _ _ _ ψ hψ _ hκ
 | ret => exact hκ _ _ _ hψ _ _ _
 | exit n => exact hκ _ _ _ hψ _ _ _
theorem Lw {J : JA} {σ : AS S} {β1 β2 γ : Type} {κ1 : Kp S β1} {κ2 : Kp S β2} {q : β1 → β2} {e : β2 → γ} (h : ∀ (δ : Type) (e : β2 → δ) ex σ, κ2 δ e ex σ = κ1 δ (fun b => e (q b)) ex σ) : kJ tb J σ κ2 e = kJ tb J σ κ1 (fun b => e (q b)) := by
 funext γ' e' ex σ'
 cases ex <;> first | rfl | exact h _ _ _ _
theorem Hs {f : W S} (hf : NW f) {J : JA} {a : An} {σ σ0 : AS S} {β γ γ' : Type} {κ : Kp S β} {φ : γ → γ'} {e : β → γ} (hφ : Gs φ) (hκ : NK κ) :
 f a σ (HT S J.ls ⊕ γ') (kJ tb J σ0 κ fun b => φ (e b)) (HT S J.ls ⊕ γ') id = (f a σ (HT S J.ls ⊕ γ) (kJ tb J σ0 κ e) (HT S J.ls ⊕ γ) id).map (Sum.map id φ) :=
 (hf.n1 a σ (HT S J.ls ⊕ γ) (HT S J.ls ⊕ γ') (kJ tb J σ0 κ e) (kJ tb J σ0 κ fun b => φ (e b)) (Sum.map id φ) (HT S J.ls ⊕ γ') id fun δ e' ex σ' => by cases ex <;> rfl).trans
  (hf.n3 a σ (HT S J.ls ⊕ γ) (kJ tb J σ0 κ e) (HT S J.ls ⊕ γ) (HT S J.ls ⊕ γ') (Sum.map id φ) (Ek hφ) id (En hκ))
theorem NI {c : Code} {f : W S} (hf : NW f) : NW (NH tb c f) := by
 refine ⟨fun an σ β1 β2 κ1 κ2 q γ e h => ?_, fun an σ β κ γ γ' φ hφ e hκ => ?_⟩
 · unfold NH
   split
   · rename_i J a
     split
     · refine bind_eq fun z => ?_
       split
       · exact h _ _ _ _
       · rfl
     · rw [Lw h]
       refine bind_eq fun z => ?_
       cases z with
       | inl u =>
         simp only [qF]
         split
         · exact h _ _ _ _
         · rfl
       | inr b => rfl
   · exact hf.n1 _ _ _ _ _ _ _ _ _ h
 · unfold NH
   split
   · rename_i J a
     split
     · refine cb fun z => ?_
       split
       · exact hκ _ _ _ hφ _ _ _
       · rfl
     · have e1 := Hs (tb := tb) hf (J := J.at_ c σ.fb) (a := a) (σ := σ) (σ0 := σ) (φ := φ) (e := e) hφ hκ
       refine (congrArg (fun x => Option.bind x _) e1).trans (FM fun z => ?_)
       cases z with
       | inl u =>
         show (match unpack tb (J.at_ c σ.fb) σ u with | some σ1 => κ γ' (fun b => φ (e b)) .normal σ1 | none => none) = Option.map φ (match unpack tb (J.at_ c σ.fb) σ u with | some σ1 => κ γ e .normal σ1 | none => none)
         cases unpack tb (J.at_ c σ.fb) σ u with
         | some σ1 => exact hκ _ _ _ hφ _ _ _
         | none => rfl
       | inr b => rfl
   · exact hf.n3 _ _ _ _ _ _ _ hφ _ hκ
theorem o8 {c : Code} {f : W S} (hf : NW f) : NW (wj tb c f) := by
 have h0 := NI (tb := tb) (c := c) hf
 refine ⟨fun an σ β1 β2 κ1 κ2 q γ e h => ?_, fun an σ β κ γ γ' φ hφ e hκ => ?_⟩
 · unfold wj
   split
   · split
     · exact h0.n1 _ _ _ _ _ _ _ _ _ h
     · rfl
   · exact h0.n1 _ _ _ _ _ _ _ _ _ h
 · unfold wj
   split
   · split
     · exact h0.n3 _ _ _ _ _ _ _ hφ _ hκ
     · rfl
   · exact h0.n3 _ _ _ _ _ _ _ hφ _ hκ
theorem De {γ γ' : Type} {φ : γ → γ'} {ops : Array Oper} {gd : Option (Nat × Bool)} {σ : AS S} {go : Bool → AS S → Option γ} {go' : Bool → AS S → Option γ'} (h : ∀ b σ, go' b σ = (go b σ).map φ) : ot ops gd σ go' = (ot ops gd σ go).map φ := by
 unfold ot
 split
 · exact h _ _
 · split
   · split
     · exact h _ _
     · split <;> exact h _ _
     · rfl
   · exact h _ _
   · rfl
theorem nt {γ γ' : Type} {φ : γ → γ'} (hφ : Gs φ) {f : FuncId} {args : List (AV S)} {ob : List (Nat × Nat × AO S)} {ct : Nat} {k : iH S → Option γ} {k' : iH S → Option γ'} (h : ∀ r, k' r = (k r).map φ) : ∀ {Ψ : List (NC S)}, (∀ c ∈ Ψ, c.Nat) → jt tb f args ob ct k' Ψ = (jt tb f args ob ct k Ψ).map φ
 | [], _ => rfl
 | c :: cs, hN => by
   simp only [jt]
   split
   · exact nt hφ h fun c hc => hN c (List.mem_cons_of_mem _ hc)
   · split
     · exact nt hφ h fun c hc => hN c (List.mem_cons_of_mem _ hc)
     · refine cb fun _ => hN c List.mem_cons_self _ _ φ hφ _ _ (fun y => ?_) _
       split
       · exact h _
       · rfl
theorem FP {γ : Type} {f : FuncId} {args : List (AV S)} {ob : List (Nat × Nat × AO S)} {ct : Nat} {k k' : iH S → Option γ} (h : ∀ r, k' r = k r) {Ψ : List (NC S)} : jt tb f args ob ct k' Ψ = jt tb f args ob ct k Ψ := by
 rw [show k' = k from funext h]
theorem py {γ γ' : Type} {φ : γ → γ'} (hφ : Gs φ) (hN : ∀ c ∈ fa.nd, c.Nat) {sq : Bool} {ops : Array Oper} : ∀ {rest : List Oper} {i : Nat} {σ : AS S} {lg : Log} {k : AS S → Log → Option γ} {k' : AS S → Log → Option γ'}, (∀ σ lg, k' σ lg = (k σ lg).map φ) → lL tb tt Φ fa sq ops rest i σ lg k' = (lL tb tt Φ fa sq ops rest i σ lg k).map φ
 | [], i, σ, lg, k, k', h => h _ _
 | o :: rest, i, σ, lg, k, k', h => by
   simp only [lL]
   refine De fun b σ1 => ?_
   cases b with
   | false => exact py hφ hN h
   | true =>
     simp only
     split
     · split
       · rw [sv (k := fun r => _), sv (γ := γ) (k := fun r => _)]
         refine cb fun r => ?_
         split
         · exact py hφ hN h
         · rfl
       · exact nt hφ (fun r => py hφ hN h) hN
     · rfl
theorem vp {q : Nat} {σ : AS S} {β1 β2 : Type} {κ1 : Kp S β1} {κ2 : Kp S β2} {f : β1 → β2} {γ : Type} {e : β2 → γ} (h : ∀ (δ : Type) (e : β2 → δ) ex σ, κ2 δ e ex σ = κ1 δ (fun b => e (f b)) ex σ) : gS q σ κ2 e = gS q σ κ1 (fun b => e (f b)) := by
 unfold gS
 split
 · split <;> first | exact h _ _ _ _ | rfl
 · rfl
theorem sU {q : Nat} {σ : AS S} {β : Type} {κ : Kp S β} {γ γ' : Type} {φ : γ → γ'} {e : β → γ} (hφ : Gs φ) (hκ : NK κ) : gS q σ κ (fun b => φ (e b)) = (gS q σ κ e).map φ := by
 unfold gS
 split
 · split <;> first | exact hκ _ _ _ hφ _ _ _ | rfl
 · rfl
theorem Lx {J : JA} {σ : AS S} {β γ : Type} {κ : Kp S β} {emb : β → γ} {q ver : Nat} (hκ : NK κ) : NK (kM tb q ver J σ κ emb) := fun δ δ' ψ hψ e ex σ' => by
 cases ex with
 | normal =>
   simp only [kM]
   split
   · split
     · exact cb fun z => rfl
     · rfl
   · rfl
 | ret => exact hκ _ _ _ hψ _ _ _
 | exit n => exact hκ _ _ _ hψ _ _ _
theorem OA {J : JA} {σ : AS S} {β1 β2 γ : Type} {κ1 : Kp S β1} {κ2 : Kp S β2} {q : β1 → β2} {e : β2 → γ} {r ver : Nat} (h : ∀ (δ : Type) (e : β2 → δ) ex σ, κ2 δ e ex σ = κ1 δ (fun b => e (q b)) ex σ) : kM tb r ver J σ κ2 e = kM tb r ver J σ κ1 (fun b => e (q b)) := by
 funext γ' e' ex σ'
 cases ex <;> first | rfl | exact h _ _ _ _
theorem Mt {f : W S} (hf : NW f) {J : JA} {a : An} {σ σ0 : AS S} {β γ γ' : Type} {κ : Kp S β} {φ : γ → γ'} {e : β → γ} {r ver : Nat} (hφ : Gs φ) (hκ : NK κ) :
 f a σ (HT S J.ls ⊕ γ') (kM tb r ver J σ0 κ fun b => φ (e b)) (HT S J.ls ⊕ γ') id = (f a σ (HT S J.ls ⊕ γ) (kM tb r ver J σ0 κ e) (HT S J.ls ⊕ γ) id).map (Sum.map id φ) :=
 (hf.n1 a σ (HT S J.ls ⊕ γ) (HT S J.ls ⊕ γ') (kM tb r ver J σ0 κ e) (kM tb r ver J σ0 κ fun b => φ (e b)) (Sum.map id φ) (HT S J.ls ⊕ γ') id fun δ e' ex σ' => by
  cases ex with
  | normal =>
    simp only [kM]
    split
    · split
      · rfl
      · rfl
    · rfl
  | ret => rfl
  | exit n => rfl).trans
  (hf.n3 a σ (HT S J.ls ⊕ γ) (kM tb r ver J σ0 κ e) (HT S J.ls ⊕ γ) (HT S J.ls ⊕ γ') (Sum.map id φ) (Ek hφ) id (Lx hκ))
theorem My {J : JA} {σ : AS S} {r it nx c out : Nat} {f : AS S → (β : Type) → Kp S β → (γ : Type) → (β → γ) → Option γ} {β1 β2 γ : Type} {κ1 : Kp S β1} {κ2 : Kp S β2} {q : β1 → β2} {e : β2 → γ} (h : ∀ (δ : Type) (e : β2 → δ) ex σ, κ2 δ e ex σ = κ1 δ (fun b => e (q b)) ex σ) :
 J1 tb J r σ it nx c out f κ2 e = J1 tb J r σ it nx c out f κ1 (fun b => e (q b)) := by
 unfold J1
 simp only [OA h, h]
theorem J2 {J : JA} {σ : AS S} {r it nx c out : Nat} {f : W S} {a : An} (hf : NW f) {β γ γ' : Type} {κ : Kp S β} {φ : γ → γ'} {e : β → γ} (hφ : Gs φ) (hκ : NK κ) :
 J1 tb J r σ it nx c out (fun σ2 β κ γ emb => f a σ2 β κ γ emb) κ (fun b => φ (e b)) = (J1 tb J r σ it nx c out (fun σ2 β κ γ emb => f a σ2 β κ γ emb) κ e).map φ := by
 unfold J1
 split
 · split
   · split
     · refine cb fun z0 => E7 hφ fun p => zu (fun x z => ?_) (fun z => ?_) p z0
       · split
         · split
           · exact Mt (tb := tb) hf hφ hκ
           · rfl
         · rfl
       · split
         · split
           · exact hκ _ _ _ hφ _ _ _
           · rfl
         · rfl
     · rfl
   · rfl
 · rfl
theorem JW {body : Code} (hx : NW (tF tb tt Φ fa body)) (hy : ∀ s1 s2 rest, body = .seq s1 (.seq s2 rest) → NW (tF tb tt Φ fa rest)) : NW (tF tb tt Φ fa (.loop body)) := by
 rw [tF]
 exact o8 (by
  refine ⟨fun an σ β1 β2 κ1 κ2 q γ e h => ?_, fun an σ β κ γ γ' φ hφ e hκ => ?_⟩
  · split
    · rename_i J a
      rw [Lw h]
    · split
      · split
        · split
          · exact My h
          · rfl
        · rfl
      · rfl
    · rfl
  · split
    · rename_i J a
      refine cb fun z0 => GH (fun z => ?_) z0
      split
      · exact Hs (tb := tb) hx (J := J.at_ (.loop body) σ.fb) hφ hκ
      · rfl
    · split
      · rename_i rest
        split
        · split
          · exact J2 (hy _ _ rest rfl) hφ hκ
          · rfl
        · rfl
      · rfl
    · rfl)
theorem mi (hN : ∀ c ∈ fa.nd, c.Nat) : ∀ c : Code, NW (tF tb tt Φ fa c)
 | .skip => o8 ⟨fun _ _ _ _ _ _ _ _ _ h => h _ _ _ _, fun _ _ _ _ _ _ _ hφ _ h => h _ _ _ hφ _ _ _⟩
 | .label _ => o8 ⟨fun _ _ _ _ _ _ _ _ _ h => h _ _ _ _, fun _ _ _ _ _ _ _ hφ _ h => h _ _ _ hφ _ _ _⟩
 | .ret => o8 ⟨fun _ _ _ _ _ _ _ _ _ h => h _ _ _ _, fun _ _ _ _ _ _ _ hφ _ h => h _ _ _ hφ _ _ _⟩
 | .exit _ => o8 ⟨fun _ _ _ _ _ _ _ _ _ h => h _ _ _ _, fun _ _ _ _ _ _ _ hφ _ h => h _ _ _ hφ _ _ _⟩
 | .seq x y => o8 (by
   have hx := mi hN x
   have hy := mi hN y
   refine ⟨fun an σ β1 β2 κ1 κ2 q γ e h => ?_, fun an σ β κ γ γ' φ hφ e hκ => ?_⟩
   · exact hx.n1 _ _ _ _ _ _ q _ _ fun δ e' ex σ' => by
      cases ex with
      | normal => exact hy.n1 _ _ _ _ _ _ q _ _ h
      | ret => exact h _ _ _ _
      | exit n => exact h _ _ _ _
   · exact hx.n3 _ _ _ _ _ _ φ hφ _ (Ly hy hκ))
 | .cond c x y => o8 (by
   have hx := mi hN x
   have hy := mi hN y
   refine ⟨fun an σ β1 β2 κ1 κ2 q γ e h => ?_, fun an σ β κ γ γ' φ hφ e hκ => ?_⟩
   · split
     · split
       · split
         · exact hx.n1 _ _ _ _ _ _ q _ _ h
         · exact hy.n1 _ _ _ _ _ _ q _ _ h
         · split
           · exact hx.n1 _ _ _ _ _ _ q _ _ h
           · exact hy.n1 _ _ _ _ _ _ q _ _ h
         · exact congr (congrArg qB (hx.n1 _ _ _ _ _ _ q _ _ h)) (hy.n1 _ _ _ _ _ _ q _ _ h)
         · exact hx.n1 _ _ _ _ _ _ q _ _ h
         · exact hy.n1 _ _ _ _ _ _ q _ _ h
         · rfl
       · rfl
     · exact hx.n1 _ _ _ _ _ _ q _ _ h
     · exact hy.n1 _ _ _ _ _ _ q _ _ h
     · rfl
   · split
     · split
       · split
         · exact hx.n3 _ _ _ _ _ _ φ hφ _ hκ
         · exact hy.n3 _ _ _ _ _ _ φ hφ _ hκ
         · split
           · exact hx.n3 _ _ _ _ _ _ φ hφ _ hκ
           · exact hy.n3 _ _ _ _ _ _ φ hφ _ hκ
         · exact E6 hφ (hx.n3 _ _ _ _ _ _ φ hφ _ hκ) (hy.n3 _ _ _ _ _ _ φ hφ _ hκ)
         · exact hx.n3 _ _ _ _ _ _ φ hφ _ hκ
         · exact hy.n3 _ _ _ _ _ _ φ hφ _ hκ
         · rfl
       · rfl
     · exact hx.n3 _ _ _ _ _ _ φ hφ _ hκ
     · exact hy.n3 _ _ _ _ _ _ φ hφ _ hκ
     · rfl)
 | .block id body => o8 (by
   have hx := mi hN body
   refine ⟨fun an σ β1 β2 κ1 κ2 q γ e h => ?_, fun an σ β κ γ γ' φ hφ e hκ => ?_⟩
   · exact hx.n1 _ _ _ _ _ _ q _ _ fun δ e' ex σ' => by
      cases ex with
      | normal => exact h _ _ _ _
      | ret => exact h _ _ _ _
      | exit n => simp only [kB]; split <;> exact h _ _ _ _
   · exact hx.n3 _ _ _ _ _ _ φ hφ _ (Lv hκ))
 | .scope body => o8 (by
   have hx := mi hN body
   exact ⟨fun an σ β1 β2 κ1 κ2 q γ e h => hx.n1 _ _ _ _ _ _ q _ _ h, fun an σ β κ γ γ' φ hφ e hκ => hx.n3 _ _ _ _ _ _ φ hφ _ hκ⟩)
 | .loop body => JW (mi hN body) fun s1 s2 rest e => mi hN rest
 | .region _ ops draw => o8 (by
   refine ⟨fun an σ β1 β2 κ1 κ2 q γ e h => ?_, fun an σ β κ γ γ' φ hφ e hκ => ?_⟩
   · simp only [h]
   · refine py hφ hN fun σ' lg => ?_
     split
     · exact hκ _ _ _ hφ _ _ _
     · rfl)
 | .rangeFunc g ps x y => o8 ⟨fun an σ β1 β2 κ1 κ2 q γ e h => by
  split
  · split
    · split
      · congr 1
        funext r
        split
        · exact vp h
        · rfl
      · exact FP fun r => vp h
    · rfl
  · rfl, fun an σ β κ γ γ' φ hφ e hκ => by
  split
  · split
    · split
      · rw [kL (k := fun r => _), kL (γ := γ) (k := fun r => _)]
        refine cb fun r => ?_
        split
        · exact sU hφ hκ
        · rfl
      · exact nt hφ (fun r => sU hφ hκ) hN
    · rfl
  · rfl⟩
 | .goto _ => ⟨fun _ _ _ _ _ _ _ _ _ _ => rfl, fun _ _ _ _ _ _ _ _ _ _ => rfl⟩
 | .refuse _ => ⟨fun _ _ _ _ _ _ _ _ _ _ => rfl, fun _ _ _ _ _ _ _ _ _ _ => rfl⟩
termination_by c => SizeOf.sizeOf c
decreasing_by all_goals first | decreasing_tactic | (subst_vars; simp; omega)
def codeOk (n : Nat) : Code → Bool
 | .rangeFunc _ _ _ _ => true
 | .seq x y => codeOk n x && codeOk n y
 | .cond _ x y => codeOk n x && codeOk n y
 | .block _ x => codeOk n x
 | .scope x => codeOk n x
 | .loop x => codeOk n x
 | .region _ ops d => ops.toList.all (BA n) && (!d || D.tidy ops n)
 | _ => true
def cw : Code → List (Array Nat × Code × Code)
 | .seq x y => cw x ++ cw y
 | .cond _ x y => cw x ++ cw y
 | .block _ x => cw x
 | .scope x => cw x
 | .loop x => cw x
 | .rangeFunc _ ps x y => [(ps, x, y)]
 | _ => []
def LY (K : cV tb) (f n : Nat) (c : Code) : Prop := ∀ r ∈ cw c, K.rg (f * 1000 + oH r.2.1) = some ⟨r.1.toList, r.2.1, r.2.2, n⟩
def toEx : Gp → Exit
 | .normal => .normal
 | .ret => .ret
 | .exit n => .exit n
def Cx.ok (rr : Option Nat) (ds : Cx) : Prop := match rr with
 | none => ∃ Ds, ds = ⟨Gu Ds, [.defs Ds]⟩
 | some _ => ds = ⟨[], []⟩
section
variable (P : Program) (K : cV tb) (tt : TypeId → Option (TI S)) (Φ : List (bO S)) (fa : FA S) (n : Nat) (B : List Nat) (m0 : Mem) (rb : Nat → Option Gh) (rr : Option Nat)
def zO (ds : Cx) : Prop := ∀ (id : Nat) (ops : Array Oper) (γ : Type) (κ : AS S → Option γ) (z : γ) (σ : AS S) (g : GG S) (a : Act) (m : Mem) (L : List az) (Q : Exit → Act → World → Prop),
 lL tb tt Φ fa false ops ops.toList 0 σ [] (fun σ' lg => match !true || (sM ops lg && eJ (σ'.ob.map (·.1))) with | true => κ σ' | false => none) = some z → codeOk n (.region id ops true) = true → Inv K n ds B m0 rb σ g a m L →
 (∀ σ' g' a' m' L', κ σ' = some z → GE g g' → Le m m' → Inv K n ds B m0 rb σ' g' a' m' L' → Q .normal a' m'.w) → (Code.region id ops true).wpIn (FW rr) 0 P Q a m.w
def NP (c : Code) (f : W S) : Prop := ∀ (an : An) (σ : AS S) (β : Type) (κ : Kp S β) (γ : Type) (emb : β → γ) (z : γ) (g : GG S) (a : Act) (m : Mem) (L : List az) (Q : Exit → Act → World → Prop) (ds : Cx), ds.ok rr → NK κ → f an σ β κ γ emb = some z → Inv K n ds B m0 rb σ g a m L →
 (∀ ex σ' g' a' m' L' (ds' : Cx), ds'.ok rr → κ γ emb ex σ' = some z → GE g g' → Le m m' → Inv K n ds' B m0 rb σ' g' a' m' L' → Q (toEx ex) a' m'.w) → c.wpIn (FW rr) 0 P Q a m.w
end
section
variable {n : Nat} {ds : Cx} {B : List Nat} {m0 : Mem} {rb : Nat → Option Gh} {rr : Option Nat}
theorem Em {J : JA} {σ σ' : AS S} {β γ : Type} {κ : Kp S β} {emb : β → γ} {ex : Gp} {u : HT S J.ls} (hκ : NK κ) (h : kJ tb J σ κ emb (HT S J.ls ⊕ γ) id ex σ' = some (.inl u)) : ex = .normal ∧ pack tb J σ σ' = some u := by
 cases ex with
 | normal =>
   obtain ⟨v, hv, he⟩ := Option.bind_eq_some_iff.1 h
   have := Option.some.inj he
   simp only [id] at this
   cases this
   exact ⟨rfl, hv⟩
 | ret =>
   have h1 := hκ γ (HT S J.ls ⊕ γ) .inr wc emb .ret σ'
   have h2 : κ (HT S J.ls ⊕ γ) (fun b => .inr (emb b)) .ret σ' = some (.inl u) := h
   rw [h1] at h2
   obtain ⟨_, _, h3⟩ := Option.map_eq_some_iff.1 h2
   cases h3
 | exit k =>
   have h1 := hκ γ (HT S J.ls ⊕ γ) .inr wc emb (.exit k) σ'
   have h2 : κ (HT S J.ls ⊕ γ) (fun b => .inr (emb b)) (.exit k) σ' = some (.inl u) := h
   rw [h1] at h2
   obtain ⟨_, _, h3⟩ := Option.map_eq_some_iff.1 h2
   cases h3
theorem Aj {J : JA} {σ σ' : AS S} {β γ : Type} {κ : Kp S β} {emb : β → γ} {ex : Gp} {r : γ} (hκ : NK κ) (h : kJ tb J σ κ emb (HT S J.ls ⊕ γ) id ex σ' = some (.inr r)) : κ γ emb ex σ' = some r ∧ ex ≠ .normal := by
 cases ex with
 | normal =>
   obtain ⟨v, hv, he⟩ := Option.bind_eq_some_iff.1 h
   have := Option.some.inj he
   simp only [id] at this
   cases this
 | ret =>
   have h1 := hκ γ (HT S J.ls ⊕ γ) .inr wc emb .ret σ'
   have h2 : κ (HT S J.ls ⊕ γ) (fun b => .inr (emb b)) .ret σ' = some (.inr r) := h
   rw [h1] at h2
   obtain ⟨_, h4, h3⟩ := Option.map_eq_some_iff.1 h2
   cases h3
   exact ⟨h4, fun e => by cases e⟩
 | exit k =>
   have h1 := hκ γ (HT S J.ls ⊕ γ) .inr wc emb (.exit k) σ'
   have h2 : κ (HT S J.ls ⊕ γ) (fun b => .inr (emb b)) (.exit k) σ' = some (.inr r) := h
   rw [h1] at h2
   obtain ⟨_, h4, h3⟩ := Option.map_eq_some_iff.1 h2
   cases h3
   exact ⟨h4, fun e => by cases e⟩
theorem ES {next : Act → World → Prop} {Q : Exit → Act → World → Prop} {ex : Gp} {a : Act} {w : World} (h : ex ≠ .normal) (hq : Q (toEx ex) a w) : Exit.then next Q (toEx ex) a w := by
 cases ex with
 | normal => exact absurd rfl h
 | ret => exact hq
 | exit k => exact hq
theorem Je {c : Code} {f : W S} (hf : NP P K n B m0 rb rr c f) : NP P K n B m0 rb rr c (NH tb c f) := by
 intro an σ β κ γ emb z g a m L Q ds hds hκ h hI hQ
 unfold NH at h
 split at h
 · rename_i J an'
   split at h
   · obtain ⟨u, hu, h1⟩ := Option.bind_eq_some_iff.1 h
     split at h1
     · rename_i σ1 h2
       refine Ja (fun a' w' => ∃ σ' g' m' L' ds', ds'.ok rr ∧ m'.w = w' ∧ pack tb (J.at_ c σ.fb) σ σ' = some u ∧ GE g g' ∧ Le m m' ∧ Inv K n ds' B m0 rb σ' g' a' m' L') ?_ ?_
       · rintro a' w' ⟨σ', g', m', L', ds', hds', rfl, k1, k2, k3, k4⟩
         obtain ⟨g1, m1, L1, hw, hle1, k5, k6⟩ := pC hI k4 k2 k3 k1 h2
         rw [← hw]
         exact hQ .normal σ1 g1 a' m1 L1 ds' hds' h1 k5 hle1 k6
       · refine hf an' σ (HT S J.ls) (kN tb (J.at_ c σ.fb) σ) (HT S J.ls) id u g a m L _ ds hds OC hu hI fun ex σ' g' a' m' L' ds' hds' k1 k2 k3 k4 => ?_
         cases ex with
         | normal =>
           obtain ⟨v, hv, he⟩ := Option.bind_eq_some_iff.1 k1
           have := Option.some.inj he
           simp only [id] at this
           subst this
           exact ⟨σ', g', m', L', ds', hds', rfl, hv, k2, k3, k4⟩
         | ret => cases k1
         | exit _ => cases k1
     · cases h1
   · obtain ⟨zz, hu, h1⟩ := Option.bind_eq_some_iff.1 h
     cases zz with
     | inl u =>
       have h1' : (match unpack tb (J.at_ c σ.fb) σ u with | some σ1 => κ γ emb .normal σ1 | none => none) = some z := h1
       split at h1'
       · rename_i σ1 h2
         refine Ja (fun a' w' => ∃ σ' g' m' L' ds', ds'.ok rr ∧ m'.w = w' ∧ pack tb (J.at_ c σ.fb) σ σ' = some u ∧ GE g g' ∧ Le m m' ∧ Inv K n ds' B m0 rb σ' g' a' m' L') ?_ ?_
         · rintro a' w' ⟨σ', g', m', L', ds', hds', rfl, k1, k2, k3, k4⟩
           obtain ⟨g1, m1, L1, hw, hle1, k5, k6⟩ := pC hI k4 k2 k3 k1 h2
           rw [← hw]
           exact hQ .normal σ1 g1 a' m1 L1 ds' hds' h1' k5 hle1 k6
         · refine hf an' σ (HT S J.ls ⊕ γ) (kJ tb (J.at_ c σ.fb) σ κ emb) (HT S J.ls ⊕ γ) id (.inl u) g a m L _ ds hds (En hκ) hu hI fun ex σ' g' a' m' L' ds' hds' k1 k2 k3 k4 => ?_
           obtain ⟨rfl, k5⟩ := Em (J := J.at_ c σ.fb) hκ k1
           exact ⟨σ', g', m', L', ds', hds', rfl, k5, k2, k3, k4⟩
       · cases h1'
     | inr r =>
       have h1' : some r = some z := h1
       have h1' := Option.some.inj h1'
       rw [h1'] at hu
       clear h1
       refine hf an' σ (HT S J.ls ⊕ γ) (kJ tb (J.at_ c σ.fb) σ κ emb) (HT S J.ls ⊕ γ) id (.inr z) g a m L _ ds hds (En hκ) hu hI fun ex σ' g' a' m' L' ds' hds' k1 k2 k3 k4 => ?_
       exact hQ ex σ' g' a' m' L' ds' hds' (Aj (J := J.at_ c σ.fb) hκ k1).1 k2 k3 k4
 · exact hf an σ β κ γ emb z g a m L Q ds hds hκ h hI hQ
variable {σ σ1 : AS S} {a : Act} {L : List az} {g : GG S} {m : Mem}
theorem o9 {c : Code} {f : W S} (hf : NP P K n B m0 rb rr c f) : NP P K n B m0 rb rr c (wj tb c f) := by
 intro an σ β κ γ emb z g a m L Q ds hds hκ h hI hQ
 unfold wj at h
 split at h
 · split at h
   · rename_i σ1 h1
     obtain ⟨g1, m1, L1, hw, hle, k1, k2⟩ := sT hI h1
     rw [← hw]
     exact Je hf _ σ1 β κ γ emb z g1 a m1 L1 Q ds hds hκ h k2 fun ex σ' g' a' m' L' ds' hds' j1 j2 j3 j4 => hQ ex σ' g' a' m' L' ds' hds' j1 (k1.trans j2) (hle.trans j3) j4
   · cases h
 · exact Je hf _ σ β κ γ emb z g a m L Q ds hds hκ h hI hQ
theorem Jc {Q : Exit → Act → World → Prop} {gop : Operand} {ps : Array Tmp} {kI body : Code} {gf : FuncId} {cap : List Value} {Ds : List Nat} {X : List az} (hd : a.defers = Gu Ds) (hS : St B m0 m (X ++ [.defs Ds])) (hg : a.eval gop = .func (.func gf) #[] cap.toArray)
 (h : ∀ l D R m1, Le m m1 → yJ R ps a.tmps kI body → St B m0 m1 (.obj l (.loop (R .ready none)) :: (X ++ [.defs (D :: Ds)])) → tH P gf ∧ Calls P gf (.func (.yield l) #[] #[] :: cap).toArray m1.w fun e w' => ∃ v, e = .returned v ∧ ∃ jump w'', (Instr.endLoop l).run P w' = .ok jump w'' ∧
  (match jump with | none => Q .normal { a with defers := Gu (D :: Ds) } w'' | some c => c.wpIn (FW none) 0 P Q { a with defers := Gu (D :: Ds) } w'')) : (Code.rangeFunc gop ps kI body).wpIn (FW none) 0 P Q a m.w := by
 refine wpIn_rangeFunc fun fn _ => ?_
 have s1 : St B m0 m (.defs Ds :: X) := hS.perm List.perm_append_comm
 have s2 := s1.newObj (.deferred (some []))
 have s3 := s2.two (e := .defs (m.w.heap.size :: Ds)) rfl (fun h1 h2 D hD => by
  simp at hD
  rcases hD with rfl | hD
  · exact h1
  · exact h2 D hD) (fun _ _ _ => trivial) (fun _ _ _ => trivial)
 let rec_ : LoopState → Option Code → Loop := fun st pe => { state := st, pending := pe, fn := fn, tmps := a.tmps, params := ps, assign := kI, body := body, defers := m.w.heap.size }
 have s4 := s3.newObj (.loop (rec_ .ready none))
 have hl : (m.w.alloc (.deferred (some []))).heap.size = m.w.heap.size + 1 := World.size_alloc _ _
 have hle1 : Le m ⟨(m.w.alloc (.deferred (some []))).alloc (.loop (rec_ .ready none)), _⟩ := (Le.alloc m (.deferred (some []))).trans (Le.alloc _ (.loop (rec_ .ready none)))
 simp only [hl] at s4
 obtain ⟨hen, hcall⟩ := h (m.w.heap.size + 1) m.w.heap.size rec_ _ hle1 ⟨fn, m.w.heap.size, rfl⟩ (s4.perm (List.Perm.cons _ (List.perm_append_comm (l₁ := [az.defs (m.w.heap.size :: Ds)]))))
 have hargs : (#[.func (.yield (m.w.heap.size + 1)) #[] #[]] ++ cap.toArray : Array Value) = (.func (.yield (m.w.heap.size + 1)) #[] #[] :: cap).toArray := by simp
 refine ⟨m.w.heap.size + 1, [{ target := .collected m.w.heap.size, args := #[] }], (m.w.alloc (.deferred (some []))).alloc (.loop (rec_ .ready none)), { target := .fn (.func gf) cap.toArray, args := #[.func (.yield (m.w.heap.size + 1)) #[] #[]] },
  (m.w.alloc (.deferred (some []))).alloc (.loop (rec_ .ready none)), gf, #[.func (.yield (m.w.heap.size + 1)) #[] #[]] ++ cap.toArray, (m.w.alloc (.deferred (some []))).alloc (.loop (rec_ .ready none)), run_enterLoop_outer _ _ _ _ _, ?_, fun _ _ => trivial, ?_, fun h => by simp [FW] at h, ?_⟩
 · simp only [resolve, hg]
   simp [go_sem]
 · simp only [invoke]; exact hen _ _
 · rw [hargs]
   refine (Bt none hcall).mono ?_
   rintro e w ⟨v, rfl, jump, w', hend, hx⟩
   refine ⟨jump, w', hend, ?_⟩
   have hdd : ({ a with defers := [{ target := .collected m.w.heap.size, args := #[] }] ++ a.defers } : Act) = { a with defers := Gu (m.w.heap.size :: Ds) } := by rw [hd]; rfl
   rw [hdd]
   cases jump <;> exact hx
theorem Inv.N6 {ds ds' : Cx} {a' : Act} (hI : Inv K n ds B m0 rb σ g a m L) (ht : a'.tmps = a.tmps) (hd : a'.defers = ds'.d) (hS : St B m0 m (L ++ ds'.X)) : Inv K n ds' B m0 rb σ g a' m L := by
 have he : ∀ t, a'.eval (.tmp t) = a.eval (.tmp t) := fun t => by simp only [Act.eval, ht]
 exact ⟨by rw [ht]; exact hI.size, hd, fun t aI v h => by rw [he]; exact hI.at_ t aI v h, hI.tm, hI.ob, hS, hI.fresh, hI.rt⟩
theorem Cc (hT : cn P K tt) {gop : Operand} {ps : Array Nat} {x y : Code} {f : FuncId} {caps : List (CV S)} {r : Nat} {γ : Type} {z : γ} {β : Type} {κ : Kp S β} {emb : β → γ} {Q : Exit → Act → World → Prop} {ds : Cx}
 (hds : ds.ok none) (hI : Inv K n ds B m0 rb σ g a m L) (hfb : σ.fb = 0) (hop : lU tt σ 0 gop = some (.one (.fn (.func f) [] caps))) (hf : f ≤ 999999) (hrg : K.rg r = some ⟨ps.toList, x, y, n⟩)
 (h : CE P K f (.one (.yl (σ.ct + 1)) :: caps.map tI) (jF σ (.loop r .ready σ.tm)).ob (σ.ct + 64) (fun r' => gS (σ.ct + 1) ((jF σ (.loop r .ready σ.tm)).vU none none r') κ emb) z)
 (hQ : ∀ ex σ' g' a' m' L' (ds' : Cx), ds'.ok none → κ γ emb ex σ' = some z → GE g g' → Le m m' → Inv K n ds' B m0 rb σ' g' a' m' L' → Q (toEx ex) a' m'.w) : (Code.rangeFunc gop ps x y).wpIn (FW none) 0 P Q a m.w := by
 obtain ⟨Ds, rfl⟩ := hds
 have hop' := xA hT hI hop
 simp only [aA, au] at hop'
 obtain ⟨v1, v2, e1, e2, e3⟩ := hop'
 simp only [fD] at e2
 subst e2
 simp only [List.cons.injEq, and_true] at e1
 obtain ⟨rd, rm, hn, h4⟩ := h
 refine Jc (X := L) hI.defers hI.st e1 fun l D R m1 hle hR hS => ?_
 let e0 : az := .obj l (.loop (R .ready none))
 let g1 : GG S := { bk := fun i => if i = σ.ct + 1 then some ⟨some l, none, 0, 0, default⟩ else g.bk i, vv := g.vv, oo := fun i => if i = σ.ct + 32 then some (.loop r .ready σ.tm, e0) else g.oo i }
 have ge1 : GE g g1 := ⟨fun i y hy => by
  show (if i = σ.ct + 1 then _ else g.bk i) = _
  rw [if_neg fun e => by rw [e, (hI.fresh _ (by omega)).1] at hy; cases hy]; exact hy, fun _ _ h => h, fun i y hy => by
  show (if i = σ.ct + 32 then _ else g.oo i) = _
  rw [if_neg fun e' => by rw [e', (hI.fresh _ (by omega)).2.2] at hy; cases hy]; exact hy⟩
 have hb1 : g1.bk (σ.ct + 1) = some ⟨some l, none, 0, 0, default⟩ := if_pos rfl
 have hobj : lr K g1 m1 (σ.ct + 1) (.loop r .ready σ.tm) e0 := ⟨_, l, R, _, a.tmps, hb1, rfl, hrg, rfl, by simpa using hR, hI.size, fun t aI v hl => by
  have h5 := hI.at_ t aI v (by rw [hfb, Nat.zero_add]; exact hl)
  obtain ⟨u, h6, h7⟩ := hI.tm t aI v hl
  rw [h5] at h6
  have h6 := Option.some.inj h6
  subst h6
  exact h7.mono ge1 hle⟩
 let a1 : Act := { a with defers := Gu (D :: Ds) }
 let ds1 : Cx := ⟨Gu (D :: Ds), [.defs (D :: Ds)]⟩
 have hI1 : Inv K n ds1 B m0 rb (jF σ (.loop r .ready σ.tm)) g1 a1 m1 (e0 :: L) := by
  refine ⟨hI.size, rfl, fun t aI v h => hI.at_ t aI v h, fun s aI v h => ?_, ⟨e0, L, rfl, if_pos rfl, hobj, hI.ob.mono ge1 hle⟩, hS, fun i hi => ⟨?_, ?_, ?_⟩, ⟨hI.rt.1, fun j q hj => ?_⟩⟩
  · obtain ⟨u, k1, k2⟩ := hI.tm s aI v h
    exact ⟨u, k1, k2.mono ge1 hle⟩
  · have hi : σ.ct + 64 ≤ i := hi
    show (if i = σ.ct + 1 then _ else g.bk i) = _
    rw [if_neg (by omega)]; exact (hI.fresh i (by omega)).1
  · have hi : σ.ct + 64 ≤ i := hi
    exact (hI.fresh i (by omega)).2.1
  · have hi : σ.ct + 64 ≤ i := hi
    show (if i = σ.ct + 32 then _ else g.oo i) = _
    rw [if_neg (by omega)]; exact (hI.fresh i (by omega)).2.2
  · obtain ⟨h, k1, k2⟩ := hI.rt.2 j q hj
    exact ⟨h, k1, ge1.bk _ _ k2⟩
 obtain ⟨Lr, Lm, Lz, R', Y, q1, q2, q3, p1, p2⟩ := sQ hI1.ob hn
 have hOw : Ow m1 (Lr ++ Lm) := (hI1.st.ow.left.perm p1).left
 have key := h4 g1 m1 (.func (.yield l) #[] #[] :: v2) Lr Lm (fun i hi _ => hI1.fresh i hi) (K.Bm hI1.rt.1 hI1.st.le) (by
  simp only [bU]
  refine ⟨_, _, rfl, ?_, kK (fD.mono ge1 hle e3)⟩
  simp only [aA, au]
  exact ⟨_, l, hb1, rfl, rfl⟩) q1 q2 hOw
 unfold qM at key
 rw [if_pos hf] at key
 refine ⟨key.1, Calls.mono key.2 fun e w' ⟨v, res, hv, h1, er1, er2, h2, hDid⟩ => ⟨v, hv, ?_⟩⟩
 subst er1; subst er2
 obtain ⟨g2, m2, L2, rfl, ge2, hle2, hI2⟩ := AX hI1 (d := none) (mv := none) (fun _ h => by cases h) h2 q3 p1 p2 hDid (fun _ h => by cases h)
 have hap : a1.put none v = a1 := rfl
 rw [hap] at hI2
 unfold gS at h1
 simp only at h1
 have fin : ∀ st tm' rr' ver, look (σ.ct + 1) ((jF σ (.loop r .ready σ.tm)).vU none none res).ob = some (ver, .loop rr' st tm') → uD st ≠ .busy → ∃ m3 L3, (Instr.endLoop l).run P m2.w = .ok (yC st) m3.w ∧ Le m2 m3 ∧ Inv K n ds1 B m0 rb { (jF σ (.loop r .ready σ.tm)).vU none none res with ob := cv [σ.ct + 1] ((jF σ (.loop r .ready σ.tm)).vU none none res).ob } g2 a1 m3 L3 := fun st tm' rr' ver hlk hst => by
  obtain ⟨e, L0, Rst, ho, hp, hob⟩ := kr (X := []) hI2.ob hlk
  obtain ⟨gh, l', R2, rg, tmps, o1, o2, _, rfl, o5, _, _⟩ := ho
  have hb2 := ge2.bk _ _ hb1
  rw [hb2] at o1
  cases o1
  cases o2
  have s5 : St B m0 m2 (.obj l (.loop (R2 (uD st) (yC st))) :: ((L0 ++ ds1.X) ++ Rst)) := hI2.st.perm ((hp.append_right _).trans (by
   rw [List.cons_append, List.append_assoc, List.append_assoc]
   exact List.Perm.cons _ (List.Perm.append_left _ List.perm_append_comm)))
  obtain ⟨m3, r1, r2, r3⟩ := Ir (P := P) (uD st) (yC st) hst o5 (k := 0) s5 rfl
  have r3 := St.ux r3
  exact ⟨m3, L0, r1, r2, hI2.size, hI2.defers, hI2.at_, fun s aI v h => (let ⟨u, k1, k2⟩ := hI2.tm s aI v h; ⟨u, k1, k2.mono (GE.refl _) r2⟩), hob.mono (GE.refl _) r2, r3, hI2.fresh, hI2.rt⟩
 have hds1 : ds1.ok none := ⟨D :: Ds, rfl⟩
 split at h1
 case h_2 => cases h1
 case h_1 ver rr' st tm' hlk =>
 split at h1
 · obtain ⟨m3, L3, r1, r2, r3⟩ := fin _ _ _ _ hlk (by simp [uD])
   exact ⟨none, m3.w, r1, hQ .normal _ g2 a1 m3 L3 ds1 hds1 h1 (ge1.trans ge2) ((hle.trans hle2).trans r2) r3⟩
 · obtain ⟨m3, L3, r1, r2, r3⟩ := fin _ _ _ _ hlk (by simp [uD])
   exact ⟨some .ret, m3.w, r1, wpIn_ret (hQ .ret _ g2 a1 m3 L3 ds1 hds1 h1 (ge1.trans ge2) ((hle.trans hle2).trans r2) r3)⟩
 · obtain ⟨m3, L3, r1, r2, r3⟩ := fin _ _ _ _ hlk (by simp [uD])
   exact ⟨some (.exit _), m3.w, r1, wpIn_exit (hQ (.exit _) _ g2 a1 m3 L3 ds1 hds1 h1 (ge1.trans ge2) ((hle.trans hle2).trans r2) r3)⟩
 · cases h1
theorem OB {J : JA} {σ σ' : AS S} {β γ : Type} {κ : Kp S β} {emb : β → γ} {ex : Gp} {u : HT S J.ls} {q ver : Nat} (hκ : NK κ) (h : kM tb q ver J σ κ emb (HT S J.ls ⊕ γ) id ex σ' = some (.inl u)) : ex = .normal ∧ pack tb J σ σ' = some u ∧ ∃ ao, look q σ'.ob = some (ver, ao) := by
 cases ex with
 | normal =>
   simp only [kM] at h
   split at h
   · rename_i v ao hl
     split at h
     · rename_i hv
       obtain rfl := Nat.eq_of_beq_eq_true hv
       obtain ⟨w, hw, he⟩ := Option.bind_eq_some_iff.1 h
       have := Option.some.inj he
       simp only [id] at this
       cases this
       exact ⟨rfl, hw, ao, hl⟩
     · cases h
   · cases h
 | ret => cases (Em (tb := tb) (J := J) (σ := σ) (ex := .ret) (σ' := σ') (u := u) hκ h).1
 | exit k => cases (Em (tb := tb) (J := J) (σ := σ) (ex := .exit k) (σ' := σ') (u := u) hκ h).1
theorem Mu {J : JA} {σ σ' : AS S} {β γ : Type} {κ : Kp S β} {emb : β → γ} {ex : Gp} {r : γ} {q ver : Nat} (hκ : NK κ) (h : kM tb q ver J σ κ emb (HT S J.ls ⊕ γ) id ex σ' = some (.inr r)) : κ γ emb ex σ' = some r ∧ ex ≠ .normal := by
 cases ex with
 | normal =>
   simp only [kM] at h
   split at h
   · split at h
     · obtain ⟨w, hw, he⟩ := Option.bind_eq_some_iff.1 h
       have := Option.some.inj he
       simp only [id] at this
       cases this
     · cases h
   · cases h
 | ret => exact Aj (tb := tb) (J := J) (σ := σ) (ex := .ret) (σ' := σ') hκ h
 | exit k => exact Aj (tb := tb) (J := J) (σ := σ) (ex := .exit k) (σ' := σ') hκ h
theorem Hp {ops : Array Oper} {it nx c : Nat} (h : Qc ops = some (it, nx, c)) : ∃ a b, ops.toList = [a, b] ∧ a.op = .next (.tmp it) false ∧ a.dst = some nx ∧ a.guard = none ∧ b.op = .extract (.tmp nx) 0 ∧ b.dst = some c ∧ b.guard = none := by
 unfold Qc at h
 split at h
 · rename_i a b he
   split at h
   · rename_i h1 h2 h3 h4 h5 h6
     split at h
     · rename_i hn
       obtain rfl := Nat.eq_of_beq_eq_true hn
       cases h
       exact ⟨a, b, he, h1, h2, h3, h4, h5, h6⟩
     · cases h
   · cases h
 · cases h
structure NY (sk : List (Value × Nat)) (seen : Array Nat) (R : List Nat) : Prop where
 nd : R.Nodup
 lt : ∀ i ∈ R, i < sk.length
 mem : ∀ i p, sk[i]? = some p → (seen.contains p.2 = false ↔ i ∈ R)
theorem OG {rest : Code} {f : W S} {an : An} {id0 : Nat} {ops : Array Oper} {it nx c out : Nat} (hnx : Nat.ble (nx + 1) n = true) (hc : Nat.ble (c + 1) n = true) (hhd : Qc ops = some (it, nx, c)) (hx : NP P K n B m0 rb rr rest f)
 {J : JA} {σ : AS S} {q : Nat} {β γ : Type} {κ : Kp S β} {emb : β → γ} {z : γ} {g : GG S} {a : Act} {m : Mem} {L : List az} {Q : Exit → Act → World → Prop} {ds : Cx} (hds : ds.ok rr) (hκ : NK κ)
 (h : J1 tb J q σ it nx c out (fun σ2 β κ γ emb => f an σ2 β κ γ emb) κ emb = some z) (hI : Inv K n ds B m0 rb σ g a m L)
 (hQ : ∀ ex σ' g' a' m' L' (ds' : Cx), ds'.ok rr → κ γ emb ex σ' = some z → GE g g' → Le m m' → Inv K n ds' B m0 rb σ' g' a' m' L' → Q (toEx ex) a' m'.w) :
 (Code.loop (.seq (.region id0 ops false) (.seq (.cond (.tmp c) .skip (.exit out)) rest))).wpIn (FW rr) 0 P Q a m.w := by
 have hnx := Nat.le_of_ble_eq_true hnx
 have hc := Nat.le_of_ble_eq_true hc
 unfold J1 at h
 split at h
 case h_2 => cases h
 case h_1 ver kc o hlq =>
 split at h
 case h_2 => cases h
 case h_1 ver2 t kc1 vc l q1 hlo =>
 split at h
 case h_2 => cases h
 case h_1 hk _ hq1 =>
 obtain rfl := Nat.eq_of_beq_eq_true hq1
 subst hk
 obtain ⟨z0, hz0, h⟩ := Option.bind_eq_some_iff.1 h
 obtain ⟨_, hall⟩ := wC h
 clear h
 simp only [Hv] at hall
 obtain ⟨e, he, _, gq, go, r, seen0, j1, j2, j3, j4, rfl, j6⟩ := mz hI.ob hlq
 obtain ⟨e2, he2, _, gm, b, es0, gq', m1, m2, m3, m4, rfl, m5, m6, m7⟩ := mz hI.ob hlo
 rw [j1] at m3; cases m3
 have hseen : seen0 = #[] := j6
 subst hseen
 have hlen : l.length = gq.sk.length := by
  rw [← m7, List.length_map]; exact m5.qD.len.symm
 have hkey : ∀ (i : Nat) (p : Value × Nat), gq.sk[i]? = some p → ∃ y, (l.map (·.1))[i]? = some y ∧ cd K kc1 m y p.1 := fun i p hp => by
  rw [← m7, List.getElem?_map] at hp
  obtain ⟨e0, he0, rfl⟩ := Option.map_eq_some_iff.1 hp
  obtain ⟨pp, p1, p2⟩ := m5.qD.at he0
  exact ⟨pp.1, by rw [List.getElem?_map, p1]; rfl, p2.1⟩
 let ks : List (T S kc1) := l.map (·.1)
 let F : T S kc1 → HT S J.ls → Option (HT S J.ls ⊕ γ) := fun x z => match unpack tb J σ z with
  | some σ1 => (match FO q1 it nx c x σ1 with
    | some σ2 => f an σ2 (HT S J.ls ⊕ γ) (kM tb q1 (σ1.ct + 32) J σ κ emb) (HT S J.ls ⊕ γ) id
    | none => none)
  | none => none
 let E : HT S J.ls → Option γ := fun z => match unpack tb J σ z with
  | some σ1 => (match zw q1 it nx c σ1 with
    | some σ2 => κ γ emb (.exit out) σ2
    | none => none)
  | none => none
 refine Jb (fun k a' w' => ∃ (zz : HT S J.ls) (R : List Nat) (seen : Array Nat) (ds' : Cx), R.length = k ∧ ds'.ok rr ∧ NY gq.sk seen R ∧ w'.heap[r]? = some (.mapIter (some gq.cap) gq.n seen gq.n) ∧
  (∀ p : List (T S kc1), p.Perm (R.filterMap fun i => ks[i]?) → mR F E p zz = some z) ∧ ∀ σ1, unpack tb J σ zz = some σ1 → ∃ g1 m1 L1, m1.w = w' ∧ Le m m1 ∧ GE g g1 ∧ Inv K n ds' B m0 rb σ1 g1 a' m1 L1)
  ⟨_, z0, List.range gq.sk.length, #[], ds, rfl, hds, ⟨List.nodup_range, fun i hi => List.mem_range.1 hi, fun i p hp => ⟨fun _ => List.mem_range.2 (List.getElem?_eq_some_iff.1 hp).1, fun _ => by simp⟩⟩, sH hI he, ?_, fun σ1 h2 => pC hI hI (GE.refl g) (Le.refl m) hz0 h2⟩ ?_
 · intro p hp
   refine hall p (hp.trans ?_)
   have : (List.range gq.sk.length).filterMap (fun i => ks[i]?) = l.map (·.1) := by
    rw [← hlen, ← List.length_map (f := fun x : T S kc1 × T S vc => x.1)]
    exact F1 _
   rw [this]
 · rintro k a' w' ⟨zz, R, seen, ds', rfl, hds', hL, hheap, hfold, hinv⟩
   have hu : ∃ σ1, unpack tb J σ zz = some σ1 ∧ Dn q1 it σ1 = true := by
    have h1 := hfold _ (List.Perm.refl _)
    cases hp : R.filterMap (fun i => ks[i]?) with
    | nil =>
      rw [hp] at h1
      simp only [mR, E] at h1
      split at h1
      · rename_i σ1 hs1
        split at h1
        · rename_i hs2; exact ⟨σ1, hs1, HM hs2⟩
        · cases h1
      · cases h1
    | cons x p =>
      rw [hp] at h1
      simp only [mR] at h1
      obtain ⟨y, hy, _⟩ := Option.bind_eq_some_iff.1 h1
      simp only [F] at hy
      split at hy
      · rename_i σ1 hs1
        split at hy
        · rename_i hs2; exact ⟨σ1, hs1, JZ hs2⟩
        · cases hy
      · cases hy
   obtain ⟨σ1, hs1, hat⟩ := hu
   obtain ⟨g1, m1', L1, rfl, le1, ge1, hI1⟩ := hinv σ1 hs1
   obtain ⟨ver', o', ver2', t', kc', vc', st', l', gq', r', seen', es', hA⟩ := JY hI1 hat
   have eg := hA.bk
   rw [ge1.bk _ _ j1] at eg
   cases eg
   have er := hA.gr
   rw [j2] at er
   cases er
   have es_ := hA.hr
   rw [hheap] at es_
   cases es_
   have hst := (MapKept.stamped_iff es' gq.n).1 hA.mp.st
   obtain ⟨oa, ob, e0, a1, a2, a3, b1, b2, b3⟩ := Hp hhd
   have hsz : a'.tmps.size = n := hI1.size
   refine Cy (yh ?_)
   rw [e0]
   rcases run_next_at (P := P) m1'.w oa.type r gq.cap gq.n gq.n seen es' gq.n hheap hA.hb hst.1 (Nat.le_refl _) with ⟨h0, hrun⟩ | ⟨en, hen, w1, hw1, hrun⟩
   ·
    have hR : R = [] := by
     cases R with
     | nil => rfl
     | cons i R' =>
       exfalso
       have hi := hL.lt i List.mem_cons_self
       obtain ⟨pi, hp⟩ : ∃ p, gq.sk[i]? = some p := ⟨_, List.getElem?_eq_getElem hi⟩
       have hns := (hL.mem i _ hp).2 List.mem_cons_self
       rw [← hA.sk, List.getElem?_map] at hp
       obtain ⟨e0', he0', hpe⟩ := Option.map_eq_some_iff.1 hp
       have : e0' ∈ (leftOf es' seen).toList := by
        rw [← hpe] at hns
        simp only at hns
        unfold leftOf
        simp only [Array.toList_filter, List.mem_filter]
        exact ⟨List.mem_of_getElem? he0', by rw [hns]; rfl⟩
       have h1 : (leftOf es' seen).toList.length = 0 := by simpa using h0
       rw [List.length_eq_zero_iff.1 h1] at this
       cases this
    subst hR
    have hend := hfold [] (List.Perm.refl _)
    simp only [mR, E, hs1] at hend
    split at hend
    case h_2 => cases hend
    case h_1 σ2 hs2 =>
    obtain ⟨g2, L2, ge2, hI2⟩ := HN hI1 hA hs2 (.tuple #[.bool false]) (.bool false)
    have st1 : ab P oa a' m1'.w fun v w => v = .tuple #[.bool false] ∧ w = m1'.w := by
     unfold ab
     have : (execOp a'.eval oa).run P m1'.w = .ok (.value (.tuple #[.bool false])) m1'.w := by simp [execOp, a1, hA.ev, hrun]
     rw [this]; exact ⟨rfl, rfl⟩
    refine wpListIn_plain a3 fun KK hKK => st1.wp fun v w' ⟨hv, hw⟩ => ?_
    subst hv; subst hw
    refine hKK _ _ ?_
    rw [a2]
    have hev : (a'.put (some nx) (.tuple #[.bool false])).eval (.tmp nx) = .tuple #[.bool false] := D.fK (by rw [hsz]; exact hnx)
    have st2 : ab P ob (a'.put (some nx) (.tuple #[.bool false])) m1'.w fun v w => v = .bool false ∧ w = m1'.w := by
     unfold ab
     have : (execOp (a'.put (some nx) (.tuple #[.bool false])).eval ob).run P m1'.w = .ok (.value (.bool false)) m1'.w := by simp [execOp, b1, hev, Instr.extract]
     rw [this]; exact ⟨rfl, rfl⟩
    refine wpListIn_plain b3 fun K2 hK2 => st2.wp fun v w' ⟨hv, hw⟩ => ?_
    subst hv; subst hw
    refine hK2 _ _ (wpListIn_nil (rR ?_))
    rw [b2]
    have hcv : ((a'.put (some nx) (.tuple #[.bool false])).put (some c) (.bool false)).eval (.tmp c) = .bool false := D.fK (by rw [show (a'.put (some nx) (.tuple #[.bool false])).tmps.size = n by simp [Act.put, hsz]]; exact hc)
    exact Cy (wpIn_cond_false hcv (wpIn_exit (I3 (I3 (hQ (.exit out) σ2 g2 _ m1' L2 ds' hds' hend (ge1.trans ge2) le1 hI2)))))
   ·
    have hen2 : en ∈ es'.toList ∧ seen.contains en.born = false := by
     unfold leftOf at hen
     simp only [Array.toList_filter, List.mem_filter] at hen
     exact ⟨hen.1, by simpa using hen.2⟩
    obtain ⟨i, hi⟩ := List.mem_iff_getElem?.1 hen2.1
    have hsk : gq.sk[i]? = some (en.key, en.born) := by rw [← hA.sk, List.getElem?_map, hi]; rfl
    have hiR : i ∈ R := (hL.mem i _ hsk).1 hen2.2
    obtain ⟨x, hx1, hx2⟩ := hkey i _ hsk
    have hx1 : ks[i]? = some x := hx1
    have hpm : ∀ p' : List (T S kc1), p'.Perm ((R.erase i).filterMap fun i => ks[i]?) → mR F E (x :: p') zz = some z := fun p' hp' => by
     refine hfold _ (List.Perm.symm ?_)
     have h1 := (List.perm_cons_erase hiR).filterMap fun i => ks[i]?
     refine h1.trans ?_
     rw [List.filterMap_cons, hx1]
     exact List.Perm.cons _ hp'.symm
    have hF := hpm _ (List.Perm.refl _)
    simp only [mR] at hF
    obtain ⟨y, hy, _⟩ := Option.bind_eq_some_iff.1 hF
    clear hF
    have hy0 := hy
    simp only [F, hs1] at hy
    split at hy
    case h_2 => cases hy
    case h_1 σ2 hs2 =>
    obtain ⟨g2, m2', L2, hw2, le2, ge2, hI2, ao2, hoo⟩ := J0 hI1 hA hs2 hw1 hsk (cd.mono K le1 hx2) (.tuple #[.bool true, en.key, en.val]) (.bool true)
    have st1 : ab P oa a' m1'.w fun v w => v = .tuple #[.bool true, en.key, en.val] ∧ w = m2'.w := by
     unfold ab
     have : (execOp a'.eval oa).run P m1'.w = .ok (.value (.tuple #[.bool true, en.key, en.val])) m2'.w := by
      rw [hw2]; simp [execOp, a1, hA.ev, hrun]
     rw [this]; exact ⟨rfl, rfl⟩
    refine wpListIn_plain a3 fun KK hKK => st1.wp fun v w' ⟨hv, hw⟩ => ?_
    subst hv; subst hw
    refine hKK _ _ ?_
    rw [a2]
    have hev : (a'.put (some nx) (.tuple #[.bool true, en.key, en.val])).eval (.tmp nx) = .tuple #[.bool true, en.key, en.val] := D.fK (by rw [hsz]; exact hnx)
    have st2 : ab P ob (a'.put (some nx) (.tuple #[.bool true, en.key, en.val])) m2'.w fun v w => v = .bool true ∧ w = m2'.w := by
     unfold ab
     have : (execOp (a'.put (some nx) (.tuple #[.bool true, en.key, en.val])).eval ob).run P m2'.w = .ok (.value (.bool true)) m2'.w := by simp [execOp, b1, hev, Instr.extract]
     rw [this]; exact ⟨rfl, rfl⟩
    refine wpListIn_plain b3 fun K2 hK2 => st2.wp fun v w' ⟨hv, hw⟩ => ?_
    subst hv; subst hw
    refine hK2 _ _ (wpListIn_nil (rR ?_))
    rw [b2]
    have hcv : ((a'.put (some nx) (.tuple #[.bool true, en.key, en.val])).put (some c) (.bool true)).eval (.tmp c) = .bool true := D.fK (by rw [show (a'.put (some nx) (.tuple #[.bool true, en.key, en.val])).tmps.size = n by simp [Act.put, hsz]]; exact hc)
    refine Cy (wpIn_cond_true hcv (wpIn_skip (rR ?_)))
    refine hx an σ2 (HT S J.ls ⊕ γ) (kM tb q1 (σ1.ct + 32) J σ κ emb) (HT S J.ls ⊕ γ) id y g2 _ m2' L2 _ ds' hds' (Lx hκ) hy hI2 fun ex σ' g' a'' m' L' ds2 hds2 k1 k2 k3 k4 => ?_
    cases y with
    | inl z' =>
      obtain ⟨rfl, hpk, ao, hl'⟩ := OB hκ k1
      obtain ⟨ee, hee, hoo', _⟩ := mz k4.ob hl'
      rw [k2.oo _ _ hoo] at hoo'
      cases hoo'
      have hlenE : (R.erase i).length < R.length := by
       have := List.length_erase_of_mem hiR
       have : 0 < R.length := List.length_pos_of_mem hiR
       omega
      refine rR ⟨(R.erase i).length, hlenE, z', R.erase i, seen.push en.born, ds2, rfl, hds2, ⟨hL.nd.erase i, fun j hj => hL.lt j (List.mem_of_mem_erase hj), fun j p hp => ?_⟩, sH k4 hee, fun p' hp' => ?_, fun σ3 h3 => ?_⟩
      · rw [hL.nd.mem_erase_iff]
        by_cases hji : j = i
        · subst hji
          rw [hsk] at hp; cases hp
          simp
        · have hne : p.2 ≠ en.born := fun e => by
           have n1 := hst.2.1
           rw [← hA.sk, List.getElem?_map] at hp
           obtain ⟨ej, hej, hpe⟩ := Option.map_eq_some_iff.1 hp
           rw [← hpe] at e
           simp only at e
           have hj1 : (es'.toList.map (·.born))[j]? = some en.born := by rw [List.getElem?_map, hej]; simp [e]
           have hi1 : (es'.toList.map (·.born))[i]? = some en.born := by rw [List.getElem?_map, hi]; rfl
           exact hji ((List.getElem?_inj (List.getElem?_eq_some_iff.1 hj1).1 n1).1 (hj1.trans hi1.symm))
          rw [← hL.mem j p hp]
          simp [hji, hne]
      · have := hpm p' hp'
        simp only [mR, hy0, Option.bind_some] at this
        exact this
      · exact pC hI k4 ((ge1.trans ge2).trans k2) ((le1.trans le2).trans k3) hpk h3
    | inr rr' =>
      obtain ⟨k5, k6⟩ := Mu hκ k1
      have := hpm _ (List.Perm.refl _)
      simp only [mR, hy0, Option.bind_some, Option.some.injEq] at this
      subst this
      exact ES k6 (hQ ex σ' g' a'' m' L' ds2 hds2 k5 ((ge1.trans ge2).trans k2) ((le1.trans le2).trans k3) k4)
theorem LA {fa : FA S} (hΨ : ∀ c ∈ fa.nd, jZ P K c) : ∀ c ∈ fa.nd, c.Nat := fun c hc => (hΨ c hc).nat
theorem kZ (hT : cn P K tt) (hΦ : ∀ c ∈ Φ, Sound P K c) (hΨ : ∀ c ∈ fa.nd, jZ P K c) (hrr : fa.rd = false → rr = none) (hD : ∀ ds, zO P K tt Φ fa n B m0 rb rr ds) : ∀ c : Code, codeOk n c = true → LY K fa.fn n c → NP P K n B m0 rb rr c (tF tb tt Φ fa c)
 | .skip, _, _ => o9 fun an σ β κ γ emb z g a m L Q ds hds hκ h hI hQ => wpIn_skip (hQ .normal σ g a m L ds hds h (GE.refl g) (Le.refl m) hI)
 | .label l, _, _ => by
   have : tF tb tt Φ fa (.label l) = wj tb (.label default) fun _ σ _ κ γ emb => κ γ emb .normal σ := rfl
   rw [this]
   intro an σ β κ γ emb z g a m L Q ds hds hκ h hI hQ
   refine o9 (c := .label l) (f := fun _ σ _ κ γ emb => κ γ emb .normal σ) (fun an σ β κ γ emb z g a m L Q ds hds hκ h hI hQ => wpIn_label (hQ .normal σ g a m L ds hds h (GE.refl g) (Le.refl m) hI)) an σ β κ γ emb z g a m L Q ds hds hκ h hI hQ
 | .ret, _, _ => o9 fun an σ β κ γ emb z g a m L Q ds hds hκ h hI hQ => wpIn_ret (hQ .ret σ g a m L ds hds h (GE.refl g) (Le.refl m) hI)
 | .exit k, _, _ => o9 fun an σ β κ γ emb z g a m L Q ds hds hκ h hI hQ => wpIn_exit (hQ (.exit k) σ g a m L ds hds h (GE.refl g) (Le.refl m) hI)
 | .seq x y, hc, hg => o9 (by
   simp only [codeOk, Bool.and_eq_true] at hc
   have hx := kZ hT hΦ hΨ hrr hD x hc.1 fun r hr => hg r (List.mem_append_left _ hr)
   have hy := kZ hT hΦ hΨ hrr hD y hc.2 fun r hr => hg r (List.mem_append_right _ hr)
   intro an σ β κ γ emb z g a m L Q ds hds hκ h hI hQ
   refine Cy (hx an.l1 σ β (kS (tF tb tt Φ fa y) an.r1 κ) γ emb z g a m L _ ds hds (Ly (mi (LA hΨ) y) hκ) h hI fun ex σ' g' a' m' L' ds' hds' k1 k2 k3 k4 => ?_)
   cases ex with
   | normal => exact hy an.r1 σ' β κ γ emb z g' a' m' L' Q ds' hds' hκ k1 k4 fun ex2 σ2 g2 a2 m2 L2 ds2 hds2 j1 j2 j3 j4 => hQ ex2 σ2 g2 a2 m2 L2 ds2 hds2 j1 (k2.trans j2) (k3.trans j3) j4
   | ret => exact hQ .ret σ' g' a' m' L' ds' hds' k1 k2 k3 k4
   | exit k => exact hQ (.exit k) σ' g' a' m' L' ds' hds' k1 k2 k3 k4)
 | .cond c x y, hc, hg => o9 (by
   simp only [codeOk, Bool.and_eq_true] at hc
   have hx := kZ hT hΦ hΨ hrr hD x hc.1 fun r hr => hg r (List.mem_append_left _ hr)
   have hy := kZ hT hΦ hΨ hrr hD y hc.2 fun r hr => hg r (List.mem_append_right _ hr)
   intro an σ β κ γ emb z g a m L Q ds hds hκ h hI hQ
   simp only at h
   split at h
   · rename_i t
     split at h
     · rename_i aI v hv
       obtain ⟨e1, e2⟩ := hI.slot hv
       simp only [aA] at e2
       split at h
       · simp only [au, List.cons.injEq, and_true] at e2
         exact wpIn_cond_true e2 (hx _ σ β κ γ emb z g a m L Q ds hds hκ h hI hQ)
       · simp only [au, List.cons.injEq, and_true] at e2
         exact wpIn_cond_false e2 (hy _ σ β κ γ emb z g a m L Q ds hds hκ h hI hQ)
       · rename_i b p d hbp
         simp only [au, List.cons.injEq, and_true] at e2
         split at h
         · rename_i hp
           have hb := hbp.2 hp
           subst hb
           exact wpIn_cond_true e2 (hx _ _ β κ γ emb z g a m L Q ds hds hκ h (lX hI (by rw [e1, e2])) hQ)
         · rename_i hp
           have hb : b = false := by cases hb : b with | false => rfl | true => exact absurd (hbp.1 hb) hp
           subst hb
           exact wpIn_cond_false e2 (hy _ _ β κ γ emb z g a m L Q ds hds hκ h (lX hI (by rw [e1, e2])) hQ)
       · simp only [au] at e2
         obtain ⟨b, e2, _⟩ := e2
         simp only [List.cons.injEq, and_true] at e2
         obtain ⟨h1, h2⟩ := CN h
         cases b with
         | true => exact wpIn_cond_true e2 (hx _ _ β κ γ emb z g a m L Q ds hds hκ h1 (lX hI (by rw [e1, e2])) hQ)
         | false => exact wpIn_cond_false e2 (hy _ _ β κ γ emb z g a m L Q ds hds hκ h2 (lX hI (by rw [e1, e2])) hQ)
       · simp only [au] at e2
         obtain ⟨b, e2, hb⟩ := e2
         simp only [List.cons.injEq, and_true] at e2
         cases b with
         | true => exact wpIn_cond_true e2 (hx _ _ β κ γ emb z g a m L Q ds hds hκ h (lX hI (by rw [e1, e2])) hQ)
         | false => exact absurd (hb (by simp)) (by simp)
       · simp only [au] at e2
         obtain ⟨b, e2, hb⟩ := e2
         simp only [List.cons.injEq, and_true] at e2
         cases b with
         | true => exact absurd (hb (by simp)) (by simp)
         | false => exact wpIn_cond_false e2 (hy _ _ β κ γ emb z g a m L Q ds hds hκ h (lX hI (by rw [e1, e2])) hQ)
       · cases h
     · cases h
   · exact wpIn_cond_true rfl (hx _ σ β κ γ emb z g a m L Q ds hds hκ h hI hQ)
   · exact wpIn_cond_false rfl (hy _ σ β κ γ emb z g a m L Q ds hds hκ h hI hQ)
   · cases h)
 | .block id body, hc, hg => o9 (by
   have hx := kZ hT hΦ hΨ hrr hD body hc hg
   intro an σ β κ γ emb z g a m L Q ds hds hκ h hI hQ
   refine wpIn_block (hx an.l1 σ β (kB id κ) γ emb z g a m L _ ds hds (Lv hκ) h hI fun ex σ' g' a' m' L' ds' hds' k1 k2 k3 k4 => ?_)
   cases ex with
   | normal => exact hQ .normal σ' g' a' m' L' ds' hds' k1 k2 k3 k4
   | ret => exact hQ .ret σ' g' a' m' L' ds' hds' k1 k2 k3 k4
   | exit k =>
     simp only [kB] at k1
     split at k1
     · rename_i he
       obtain rfl := Nat.eq_of_beq_eq_true he
       exact Oa (hQ .normal σ' g' a' m' L' ds' hds' k1 k2 k3 k4)
     · rename_i he
       exact Ob (Nat.ne_of_beq_eq_false he) (hQ (.exit k) σ' g' a' m' L' ds' hds' k1 k2 k3 k4))
 | .scope body, hc, hg => o9 (by
   have hx := kZ hT hΦ hΨ hrr hD body hc hg
   intro an σ β κ γ emb z g a m L Q ds hds hκ h hI hQ
   refine KZ (hx an.l1 σ β κ γ emb z g a m L _ ds hds hκ h hI fun ex σ' g' a' m' L' ds' hds' k1 k2 k3 k4 => ?_)
   have := hQ ex σ' g' a' m' L' ds' hds' k1 k2 k3 k4
   cases ex <;> exact this)
 | .loop body, hc, hg => by
  rw [tF]
  exact o9 (by
   have hx := kZ hT hΦ hΨ hrr hD body hc hg
   intro an σ β κ γ emb z g a m L Q ds hds hκ h hI hQ
   simp only at h
   split at h
   · rename_i J an'
     obtain ⟨z0, hz0, h1⟩ := Option.bind_eq_some_iff.1 h
     refine KY h1 (fun u a' w' => ∃ ds', ds'.ok rr ∧ ∀ σ1, unpack tb (J.at_ (.loop body) σ.fb) σ u = some σ1 → ∃ g1 m1 L1, m1.w = w' ∧ Le m m1 ∧ GE g g1 ∧ Inv K n ds' B m0 rb σ1 g1 a' m1 L1) ⟨ds, hds, fun σ1 h2 => ?_⟩ ?_
     · exact pC hI hI (GE.refl g) (Le.refl m) hz0 h2
     · rintro k u x a' w' ⟨ds', hds', j2⟩ hx1 hn
       split at hx1
       · rename_i σ1 h2
         obtain ⟨g1, m', L1, hw', j1, j3, j4⟩ := j2 σ1 h2
         rw [← hw']
         refine hx an' σ1 (HT S J.ls ⊕ γ) (kJ tb (J.at_ (.loop body) σ.fb) σ κ emb) (HT S J.ls ⊕ γ) id x g1 a' m' L1 _ ds' hds' (En hκ) hx1 j4 fun ex σ' g' a2 m2 L2 ds2 hds2 k1 k2 k3 k4 => ?_
         cases x with
         | inl u' =>
           obtain ⟨rfl, k5⟩ := Em (J := J.at_ (.loop body) σ.fb) hκ k1
           refine rR (JV (I := (fun u a' w' => ∃ ds', ds'.ok rr ∧ ∀ σ1, unpack tb (J.at_ (.loop body) σ.fb) σ u = some σ1 → ∃ g1 m1 L1, m1.w = w' ∧ Le m m1 ∧ GE g g1 ∧ Inv K n ds' B m0 rb σ1 g1 a' m1 L1)) hn ⟨ds2, hds2, fun σ2 h3 => ?_⟩)
           exact pC hI k4 (j3.trans k2) (j1.trans k3) k5 h3
         | inr r =>
           obtain ⟨k5, k6⟩ := Aj (J := J.at_ (.loop body) σ.fb) hκ k1
           have : r = z := hn
           subst this
           exact ES k6 (hQ ex σ' g' a2 m2 L2 ds2 hds2 k5 (j3.trans k2) (j1.trans k3) k4)
       · cases hx1
   · split at h
     · rename_i rid ops c' out rest
       split at h
       · rename_i it nx c hhd
         split at h
         · rename_i hcc
           obtain rfl := Nat.eq_of_beq_eq_true hcc
           have hc2 := hc
           simp only [codeOk, Bool.and_eq_true, Bool.not_false, Bool.true_or, and_true] at hc2
           obtain ⟨o1, o2, e0, _, e2, _, _, e5, _⟩ := Hp hhd
           rw [e0] at hc2
           simp only [List.all_cons, BA, e2, e5, Bool.and_eq_true] at hc2
           exact OG hc2.1.1 hc2.1.2.1 hhd (kZ hT hΦ hΨ hrr hD rest hc2.2.2 fun r hr => hg r (List.mem_append_right _ (List.mem_append_right _ hr))) hds hκ h hI hQ
         · cases h
       · cases h
     · cases h
   · cases h)
 | .region id ops draw, hc, _ => by
   intro an σ β κ γ emb z g a m L Q ds hds hκ h hI hQ
   refine o9 (c := .region id ops draw) (f := fun _ σ _ κ γ emb => lL tb tt Φ fa (!draw) ops ops.toList 0 σ [] fun σ' lg => match !draw || (sM ops lg && eJ (σ'.ob.map (·.1))) with
    | true => κ γ emb .normal σ'
    | false => none) (fun an σ β κ γ emb z g a m L Q ds hds hκ h hI hQ => ?_) an σ β κ γ emb z g a m L Q ds hds hκ h hI hQ
   cases draw with
   | true => exact hD ds id ops γ (fun σ' => κ γ emb .normal σ') z σ g a m L Q h hc hI fun σ' g' a' m' L' k1 k2 k3 k4 => hQ .normal σ' g' a' m' L' ds hds k1 k2 k3 k4
   | false =>
     simp only [codeOk, Bool.and_eq_true] at hc
     exact yh (sB hT hΦ hΨ h hc.1 hI fun σ' lg g' a' m' L' k1 k2 k3 k4 => hQ .normal σ' g' a' m' L' ds hds k1 k2 k3 k4)
 | .rangeFunc gop ps x y, _, hg => o9 fun an σ β κ γ emb z g a m L Q ds hds hκ h hI hQ => by
   split at h
   · rename_i f caps hrd hfb hop
     split at h
     · rename_i hf
       obtain rfl := hrr hrd
       split at h
       · exact Cc hT hds hI hfb hop (Nat.le_of_ble_eq_true hf) (hg (ps, x, y) List.mem_cons_self) (CW hΦ h) hQ
       · exact Cc hT hds hI hfb hop (Nat.le_of_ble_eq_true hf) (hg (ps, x, y) List.mem_cons_self) (pG hΨ h) hQ
     · cases h
   · cases h
 | .goto _, _, _ => fun an σ β κ γ emb z g a m L Q ds hds hκ h hI hQ => by cases h
 | .refuse _, _, _ => fun an σ β κ γ emb z g a m L Q ds hds hκ h hI hQ => by cases h
end
end E
end Go.Proofs.YtekpafdhgkocaaaGreat
