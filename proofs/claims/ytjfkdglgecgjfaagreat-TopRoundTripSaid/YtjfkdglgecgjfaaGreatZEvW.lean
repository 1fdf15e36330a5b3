/- Part of the proof. -/
import Derived.Test.YtjfkdglgecgjfaaGreatZEvK
namespace Go.Proofs.YtjfkdglgecgjfaaGreat
section
open Go.RowKit G
namespace E
variable {S:Nat->Type}{tb:Tb S}{K:dN tb}{P:Program}{tt:TypeId->Option (TI S)}{Φ:List (gj S)}{fa:FA S}
def ML{γ γ':Type}(φ:γ->γ'):Prop:=∀x y,φ x=φ y->x=y
theorem yh{α β:Type}:ML (Sum.inr:β->α⊕β):=fun _ _ h=>Sum.inr.inj h
theorem JS{α β γ:Type}{φ:β->γ}(h:ML φ):ML (Sum.map (id:α->α) φ):=fun x y e=>by
 cases x<;>cases y<;>simp_all;exact h _ _ e
theorem Li{γ γ':Type}{φ:γ->γ'}(hφ:ML φ){a b:Option γ}{a' b':Option γ'}(ha:a'=a.map φ)(hb:b'=b.map φ):agree a' b'=(agree a b).map φ:=by
 subst ha;subst hb;unfold agree;by_cases h:a=b
 . subst h;rw[if_pos rfl,if_pos rfl]
 . rw[if_neg h,if_neg fun e=>h (by
    cases a<;>cases b<;>simp_all;exact h (hφ _ _ e))];rfl
theorem G2{γ:Type}{a b:Option γ}{z:γ}(h:agree a b=some z):a=some z/\b=some z:=by
 unfold agree at h;split at h
 . rename_i e;subst e;exact⟨h,h⟩
 . cases h
def NK{β:Type}(κ:Kp S β):Prop:=∀(γ γ':Type) (φ:γ->γ') (_:ML φ) (e:β->γ) (ex:QK) (σ:AS S),κ γ' (fun b=>φ (e b)) ex σ=(κ γ e ex σ).map φ
structure NW(f:W S):Prop where
 n1:∀(an:An) (σ:AS S) (β1 β2:Type) (κ1:Kp S β1) (κ2:Kp S β2) (q:β1->β2) (γ:Type) (e:β2->γ),(∀(δ:Type) (e:β2->δ) ex σ,κ2 δ e ex σ=κ1 δ (fun b=>e (q b)) ex σ)->f an σ β2 κ2 γ e=f an σ β1 κ1 γ (fun b=>e (q b))
 n3:∀(an:An) (σ:AS S) (β:Type) (κ:Kp S β) (γ γ':Type) (φ:γ->γ') (_:ML φ) (e:β->γ),NK κ->f an σ β κ γ' (fun b=>φ (e b))=(f an σ β κ γ e).map φ
theorem M0{σ A B:Type}{f:σ->Option (σ⊕A)}{f':σ->Option (σ⊕B)}{φ:A->B}(h:∀s,f' s=(f s).map (Sum.map id φ))(s:σ):Iter f' s=(Iter f s).map φ:=by
 have key:∀(k:Nat) (s:σ) (r:B),lx f' k s r↔∃r0,lx f k s r0/\φ r0=r:=fun k=>by
  induction k with
  |zero=>intro s r;exact⟨fun h=>h.elim,fun⟨_,h,_⟩=>h.elim⟩
  |succ k ih=>
   intro s r
   constructor
   . rintro⟨x,hx,hr⟩
     rw[h]at hx
     obtain⟨y,hy,rfl⟩:=ab.1 hx
     cases y with
     |inl s'=>obtain⟨r0,h1,h2⟩:=(ih s' r).1 hr;exact⟨r0,⟨_,hy,h1⟩,h2⟩
     |inr a=>exact⟨a,⟨_,hy,rfl⟩,hr⟩
   . rintro⟨r0,⟨x,hx,hr⟩,rfl⟩
     refine⟨Sum.map id φ x,by rw[h,hx];rfl,?_⟩
     cases x with
     |inl s'=>exact(ih s' _).2 ⟨r0,hr,rfl⟩
     |inr a=>show φ a=φ r0;rw[show a=r0 from hr]
 refine Option.ext fun r=>?_
 rw[lu,ab];constructor
 . rintro⟨k,hk⟩;obtain⟨r0,h1,h2⟩:=(key k s r).1 hk;exact⟨r0,lu.2 ⟨k,h1⟩,h2⟩
 . rintro⟨r0,h1,h2⟩;obtain⟨k,hk⟩:=lu.1 h1;exact⟨k,(key k s r).2 ⟨r0,hk,h2⟩⟩
theorem dA{α β γ:Type}{x:Option α}{f:α->Option β}{φ:β->γ}{f':α->Option γ}(h:∀a,f' a=(f a).map φ):x.bind f'=(x.bind f).map φ:=by cases x;rfl;exact h _
theorem Md{α β γ δ:Type}{x:Option α}{q:α->β}{f:β->Option δ}{f':α->Option γ}{φ:γ->δ}(h:∀a,f (q a)=(f' a).map φ):(x.map q).bind f=(x.bind f').map φ:=by cases x;rfl;exact h _
theorem Xa{J:JA}{σ:AS S}:NK (kN tb J σ):=fun δ δ' ψ hψ e ex σ'=>by
 cases ex with
 |normal=>exact dA fun z=>rfl
 |ret=>rfl
 |exit n=>rfl
theorem JV{J:JA}{σ:AS S}{β γ:Type}{κ:Kp S β}{emb:β->γ}(hκ:NK κ):NK (kJ tb J σ κ emb):=fun δ δ' ψ hψ e ex σ'=>by
 cases ex with
 |normal=>exact dA fun z=>rfl
 |ret=>exact hκ _ _ _ hψ _ _ _
 |exit n=>exact hκ _ _ _ hψ _ _ _
theorem TJ{β:Type}{id:Nat}{κ:Kp S β}(hκ:NK κ):NK (kB id κ):=fun δ δ' ψ hψ e ex σ'=>by
 cases ex with
 |normal=>exact hκ _ _ _ hψ _ _ _
 |ret=>exact hκ _ _ _ hψ _ _ _
 |exit n=>simp only[kB];split<;>exact hκ _ _ _ hψ _ _ _
theorem TM{β:Type}{f:W S}{an:An}{κ:Kp S β}(hf:NW f)(hκ:NK κ):NK (kS f an κ):=fun δ δ' ψ hψ e ex σ'=>by
 cases ex with
 |normal=>exact hf.n3 _ _ _ _ _ _ ψ hψ _ hκ
 |ret=>exact hκ _ _ _ hψ _ _ _
 |exit n=>exact hκ _ _ _ hψ _ _ _
theorem TK{J:JA}{σ:AS S}{β1 β2 γ:Type}{κ1:Kp S β1}{κ2:Kp S β2}{q:β1->β2}{e:β2->γ}(h:∀(δ:Type) (e:β2->δ) ex σ,κ2 δ e ex σ=κ1 δ (fun b=>e (q b)) ex σ):kJ tb J σ κ2 e=kJ tb J σ κ1 (fun b=>e (q b)):=by
 funext γ' e' ex σ';cases ex<;>first|rfl|exact h _ _ _ _
theorem Oj{f:W S}(hf:NW f){J:JA}{a:An}{σ σ0:AS S}{β γ γ':Type}{κ:Kp S β}{φ:γ->γ'}{e:β->γ}(hφ:ML φ)(hκ:NK κ):
 f a σ (HT S J.ls⊕γ') (kJ tb J σ0 κ fun b=>φ (e b)) (HT S J.ls⊕γ') id=(f a σ (HT S J.ls⊕γ) (kJ tb J σ0 κ e) (HT S J.ls⊕γ) id).map (Sum.map id φ):=
 (hf.n1 a σ (HT S J.ls⊕γ) (HT S J.ls⊕γ') (kJ tb J σ0 κ e) (kJ tb J σ0 κ fun b=>φ (e b)) (Sum.map id φ) (HT S J.ls⊕γ') id fun δ e' ex σ'=>by cases ex<;>rfl).trans
  (hf.n3 a σ (HT S J.ls⊕γ) (kJ tb J σ0 κ e) (HT S J.ls⊕γ) (HT S J.ls⊕γ') (Sum.map id φ) (JS hφ) id (JV hκ))
theorem VV{c:Code}{f:W S}(hf:NW f):NW (VU tb c f):=by
 refine⟨fun an σ β1 β2 κ1 κ2 q γ e h=>?_,fun an σ β κ γ γ' φ hφ e hκ=>?_⟩
 . unfold VU;split
   . rename_i J a;split
     . refine bind_eq fun z=>?_
       split
       . exact h _ _ _ _
       . rfl
     . rw[TK h];refine bind_eq fun z=>?_
       cases z with
       |inl u=>
        simp only[xj]
        split
        . exact h _ _ _ _
        . rfl
       |inr b=>rfl
   . exact hf.n1 _ _ _ _ _ _ _ _ _ h
 . unfold VU;split
   . rename_i J a;split
     . refine dA fun z=>?_
       split
       . exact hκ _ _ _ hφ _ _ _
       . rfl
     . have e1:=Oj (tb:=tb) hf (J:=J.at_ c σ.fb) (a:=a) (σ:=σ) (σ0:=σ) (φ:=φ) (e:=e) hφ hκ;refine(congrArg (fun x=>Option.bind x _) e1).trans (Md fun z=>?_)
       cases z with
       |inl u=>
        show(match unpack tb (J.at_ c σ.fb) σ u with|some σ1=>κ γ' (fun b=>φ (e b)) .normal σ1|none=>none)=Option.map φ (match unpack tb (J.at_ c σ.fb) σ u with|some σ1=>κ γ e .normal σ1|none=>none)
        cases unpack tb (J.at_ c σ.fb) σ u with
        |some σ1=>exact hκ _ _ _ hφ _ _ _
        |none=>rfl
       |inr b=>rfl
   . exact hf.n3 _ _ _ _ _ _ _ hφ _ hκ
theorem qY{c:Code}{f:W S}(hf:NW f):NW (wj tb c f):=by
 have h0:=VV (tb:=tb) (c:=c) hf;refine⟨fun an σ β1 β2 κ1 κ2 q γ e h=>?_,fun an σ β κ γ γ' φ hφ e hκ=>?_⟩
 . unfold wj;split
   . split
     . exact h0.n1 _ _ _ _ _ _ _ _ _ h
     . rfl
   . exact h0.n1 _ _ _ _ _ _ _ _ _ h
 . unfold wj;split
   . split
     . exact h0.n3 _ _ _ _ _ _ _ hφ _ hκ
     . rfl
   . exact h0.n3 _ _ _ _ _ _ _ hφ _ hκ
theorem HG{γ γ':Type}{φ:γ->γ'}{ops:Array Oper}{gd:Option (Nat×Bool)}{σ:AS S}{go:Bool->AS S->Option γ}{go':Bool->AS S->Option γ'}(h:∀b σ,go' b σ=(go b σ).map φ):qw ops gd σ go'=(qw ops gd σ go).map φ:=by
 unfold qw;split
 . exact h _ _
 . split
   . split
     . exact h _ _
     . split<;>exact h _ _
     . rfl
   . exact h _ _
   . rfl
theorem pf{γ γ':Type}{φ:γ->γ'}(hφ:ML φ){f:FuncId}{args:List (AV S)}{ob:List (Nat×Nat×AO S)}{ct:Nat}{k:fD S->Option γ}{k':fD S->Option γ'}(h:∀r,k' r=(k r).map φ):∀{Ψ:List (NC S)},(∀c∈Ψ,c.Nat)->jQ tb f args ob ct k' Ψ=(jQ tb f args ob ct k Ψ).map φ
 |[],_=>rfl
 |c::cs,hN=>by
  simp only[jQ];split
  . exact pf hφ h fun c hc=>hN c (ax _ hc)
  . split
    . exact pf hφ h fun c hc=>hN c (ax _ hc)
    . refine dA fun _=>hN c aq _ _ φ hφ _ _ (fun y=>?_) _
      split
      . exact h _
      . rfl
theorem Mg{γ:Type}{f:FuncId}{args:List (AV S)}{ob:List (Nat×Nat×AO S)}{ct:Nat}{k k':fD S->Option γ}(h:∀r,k' r=k r){Ψ:List (NC S)}:jQ tb f args ob ct k' Ψ=jQ tb f args ob ct k Ψ:=by
 rw[show k'=k from funext h]
theorem ry{γ γ':Type}{φ:γ->γ'}(hφ:ML φ)(hN:∀c∈fa.nd,c.Nat){sq:Bool}{ops:Array Oper}:∀{rest:List Oper} {i:Nat} {σ:AS S} {lg:Log} {k:AS S->Log->Option γ} {k':AS S->Log->Option γ'},(∀σ lg,k' σ lg=(k σ lg).map φ)->mw tb tt Φ fa sq ops rest i σ lg k'=(mw tb tt Φ fa sq ops rest i σ lg k).map φ
 |[],i,σ,lg,k,k',h=>h _ _
 |o::rest,i,σ,lg,k,k',h=>by
  simp only[mw];refine HG fun b σ1=>?_
  cases b with
  |false=>exact ry hφ hN h
  |true=>
   simp only
   split
   . split
     . rw[uf (k:=fun r=>_),uf (γ:=γ) (k:=fun r=>_)]
       refine dA fun r=>?_
       split
       . exact ry hφ hN h
       . rfl
     . exact pf hφ (fun r=>ry hφ hN h) hN
   . rfl
theorem xm{q:Nat}{σ:AS S}{β1 β2:Type}{κ1:Kp S β1}{κ2:Kp S β2}{f:β1->β2}{γ:Type}{e:β2->γ}(h:∀(δ:Type) (e:β2->δ) ex σ,κ2 δ e ex σ=κ1 δ (fun b=>e (f b)) ex σ):iA q σ κ2 e=iA q σ κ1 (fun b=>e (f b)):=by
 unfold iA;split
 . split<;>first|exact h _ _ _ _|rfl
 . rfl
theorem uW{q:Nat}{σ:AS S}{β:Type}{κ:Kp S β}{γ γ':Type}{φ:γ->γ'}{e:β->γ}(hφ:ML φ)(hκ:NK κ):iA q σ κ (fun b=>φ (e b))=(iA q σ κ e).map φ:=by
 unfold iA;split
 . split<;>first|exact hκ _ _ _ hφ _ _ _|rfl
 . rfl
theorem TL{J:JA}{σ:AS S}{β γ:Type}{κ:Kp S β}{emb:β->γ}{q ver:Nat}(hκ:NK κ):NK (kM tb q ver J σ κ emb):=fun δ δ' ψ hψ e ex σ'=>by
 cases ex with
 |normal=>
  simp only[kM]
  split
  . split
    . exact dA fun z=>rfl
    . rfl
  . rfl
 |ret=>exact hκ _ _ _ hψ _ _ _
 |exit n=>exact hκ _ _ _ hψ _ _ _
theorem W8{J:JA}{σ:AS S}{β1 β2 γ:Type}{κ1:Kp S β1}{κ2:Kp S β2}{q:β1->β2}{e:β2->γ}{r ver:Nat}(h:∀(δ:Type) (e:β2->δ) ex σ,κ2 δ e ex σ=κ1 δ (fun b=>e (q b)) ex σ):kM tb r ver J σ κ2 e=kM tb r ver J σ κ1 (fun b=>e (q b)):=by
 funext γ' e' ex σ';cases ex<;>first|rfl|exact h _ _ _ _
theorem Ve{f:W S}(hf:NW f){J:JA}{a:An}{σ σ0:AS S}{β γ γ':Type}{κ:Kp S β}{φ:γ->γ'}{e:β->γ}{r ver:Nat}(hφ:ML φ)(hκ:NK κ):
 f a σ (HT S J.ls⊕γ') (kM tb r ver J σ0 κ fun b=>φ (e b)) (HT S J.ls⊕γ') id=(f a σ (HT S J.ls⊕γ) (kM tb r ver J σ0 κ e) (HT S J.ls⊕γ) id).map (Sum.map id φ):=
 (hf.n1 a σ (HT S J.ls⊕γ) (HT S J.ls⊕γ') (kM tb r ver J σ0 κ e) (kM tb r ver J σ0 κ fun b=>φ (e b)) (Sum.map id φ) (HT S J.ls⊕γ') id fun δ e' ex σ'=>by
  cases ex with
  |normal=>
   simp only[kM]
   split
   . split
     . rfl
     . rfl
   . rfl
  |ret=>rfl
  |exit n=>rfl).trans
  (hf.n3 a σ (HT S J.ls⊕γ) (kM tb r ver J σ0 κ e) (HT S J.ls⊕γ) (HT S J.ls⊕γ') (Sum.map id φ) (JS hφ) id (TL hκ))
theorem Vi{J:JA}{σ:AS S}{r it nx c out:Nat}{f:AS S->(β:Type)->Kp S β->(γ:Type)->(β->γ)->Option γ}{β1 β2 γ:Type}{κ1:Kp S β1}{κ2:Kp S β2}{q:β1->β2}{e:β2->γ}(h:∀(δ:Type) (e:β2->δ) ex σ,κ2 δ e ex σ=κ1 δ (fun b=>e (q b)) ex σ):
 So tb J r σ it nx c out f κ2 e=So tb J r σ it nx c out f κ1 (fun b=>e (q b)):=by
 unfold So
 simp only[W8 h,h]
theorem Sp{J:JA}{σ:AS S}{r it nx c out:Nat}{f:W S}{a:An}(hf:NW f){β γ γ':Type}{κ:Kp S β}{φ:γ->γ'}{e:β->γ}(hφ:ML φ)(hκ:NK κ):
 So tb J r σ it nx c out (fun σ2 β κ γ emb=>f a σ2 β κ γ emb) κ (fun b=>φ (e b))=(So tb J r σ it nx c out (fun σ2 β κ γ emb=>f a σ2 β κ γ emb) κ e).map φ:=by
 unfold So
 split
 . split
   . split
     . refine dA fun z0=>Lj hφ fun p=>Cl (fun x z=>?_) (fun z=>?_) p z0
       . split
         . split
           . exact Ve (tb:=tb) hf hφ hκ
           . rfl
         . rfl
       . split
         . split
           . exact hκ _ _ _ hφ _ _ _
           . rfl
         . rfl
     . rfl
   . rfl
 . rfl
theorem Sh{body:Code}(hx:NW (xc tb tt Φ fa body))(hy:∀s1 s2 rest,body=.seq s1 (.seq s2 rest)->NW (xc tb tt Φ fa rest)):NW (xc tb tt Φ fa (.loop body)):=by
 rw[xc];exact qY (by
  refine⟨fun an σ β1 β2 κ1 κ2 q γ e h=>?_,fun an σ β κ γ γ' φ hφ e hκ=>?_⟩
  . split
    . rename_i J a;rw[TK h]
    . split
      . split
        . split
          . exact Vi h
          . rfl
        . rfl
      . rfl
    . rfl
  . split
    . rename_i J a;refine dA fun z0=>M0 (fun z=>?_) z0
      split
      . exact Oj (tb:=tb) hx (J:=J.at_ (.loop body) σ.fb) hφ hκ
      . rfl
    . split
      . rename_i rest;split
        . split
          . exact Sp (hy _ _ rest rfl) hφ hκ
          . rfl
        . rfl
      . rfl
    . rfl)
theorem oG(hN:∀c∈fa.nd,c.Nat):∀c:Code,NW (xc tb tt Φ fa c)
 |.skip=>qY ⟨fun _ _ _ _ _ _ _ _ _ h=>h _ _ _ _,fun _ _ _ _ _ _ _ hφ _ h=>h _ _ _ hφ _ _ _⟩
 |.label _=>qY ⟨fun _ _ _ _ _ _ _ _ _ h=>h _ _ _ _,fun _ _ _ _ _ _ _ hφ _ h=>h _ _ _ hφ _ _ _⟩
 |.ret=>qY ⟨fun _ _ _ _ _ _ _ _ _ h=>h _ _ _ _,fun _ _ _ _ _ _ _ hφ _ h=>h _ _ _ hφ _ _ _⟩
 |.exit _=>qY ⟨fun _ _ _ _ _ _ _ _ _ h=>h _ _ _ _,fun _ _ _ _ _ _ _ hφ _ h=>h _ _ _ hφ _ _ _⟩
 |.seq x y=>qY (by
  have hx:=oG hN x;have hy:=oG hN y;refine⟨fun an σ β1 β2 κ1 κ2 q γ e h=>?_,fun an σ β κ γ γ' φ hφ e hκ=>?_⟩
  . exact hx.n1 _ _ _ _ _ _ q _ _ fun δ e' ex σ'=>by
     cases ex with
     |normal=>exact hy.n1 _ _ _ _ _ _ q _ _ h
     |ret=>exact h _ _ _ _
     |exit n=>exact h _ _ _ _
  . exact hx.n3 _ _ _ _ _ _ φ hφ _ (TM hy hκ))
 |.cond c x y=>qY (by
  have hx:=oG hN x;have hy:=oG hN y;refine⟨fun an σ β1 β2 κ1 κ2 q γ e h=>?_,fun an σ β κ γ γ' φ hφ e hκ=>?_⟩
  . split
    . split
      . split
        . exact hx.n1 _ _ _ _ _ _ q _ _ h
        . exact hy.n1 _ _ _ _ _ _ q _ _ h
        . split
          . exact hx.n1 _ _ _ _ _ _ q _ _ h
          . exact hy.n1 _ _ _ _ _ _ q _ _ h
        . exact congr (congrArg agree (hx.n1 _ _ _ _ _ _ q _ _ h)) (hy.n1 _ _ _ _ _ _ q _ _ h)
        . exact hx.n1 _ _ _ _ _ _ q _ _ h
        . exact hy.n1 _ _ _ _ _ _ q _ _ h
        . rfl
      . rfl
    . exact hx.n1 _ _ _ _ _ _ q _ _ h
    . exact hy.n1 _ _ _ _ _ _ q _ _ h
    . rfl
  . split
    . split
      . split
        . exact hx.n3 _ _ _ _ _ _ φ hφ _ hκ
        . exact hy.n3 _ _ _ _ _ _ φ hφ _ hκ
        . split
          . exact hx.n3 _ _ _ _ _ _ φ hφ _ hκ
          . exact hy.n3 _ _ _ _ _ _ φ hφ _ hκ
        . exact Li hφ (hx.n3 _ _ _ _ _ _ φ hφ _ hκ) (hy.n3 _ _ _ _ _ _ φ hφ _ hκ)
        . exact hx.n3 _ _ _ _ _ _ φ hφ _ hκ
        . exact hy.n3 _ _ _ _ _ _ φ hφ _ hκ
        . rfl
      . rfl
    . exact hx.n3 _ _ _ _ _ _ φ hφ _ hκ
    . exact hy.n3 _ _ _ _ _ _ φ hφ _ hκ
    . rfl)
 |.block id body=>qY (by
  have hx:=oG hN body;refine⟨fun an σ β1 β2 κ1 κ2 q γ e h=>?_,fun an σ β κ γ γ' φ hφ e hκ=>?_⟩
  . exact hx.n1 _ _ _ _ _ _ q _ _ fun δ e' ex σ'=>by
     cases ex with
     |normal=>exact h _ _ _ _
     |ret=>exact h _ _ _ _
     |exit n=>simp only[kB];split<;>exact h _ _ _ _
  . exact hx.n3 _ _ _ _ _ _ φ hφ _ (TJ hκ))
 |.scope body=>qY (by
  have hx:=oG hN body;exact⟨fun an σ β1 β2 κ1 κ2 q γ e h=>hx.n1 _ _ _ _ _ _ q _ _ h,fun an σ β κ γ γ' φ hφ e hκ=>hx.n3 _ _ _ _ _ _ φ hφ _ hκ⟩)
 |.loop body=>Sh (oG hN body) fun s1 s2 rest e=>oG hN rest
 |.region _ ops draw=>qY (by
  refine⟨fun an σ β1 β2 κ1 κ2 q γ e h=>?_,fun an σ β κ γ γ' φ hφ e hκ=>?_⟩
  . simp only[h]
  . refine ry hφ hN fun σ' lg=>?_
    split
    . exact hκ _ _ _ hφ _ _ _
    . rfl)
 |.rangeFunc g ps x y=>qY ⟨fun an σ β1 β2 κ1 κ2 q γ e h=>by
  split
  . split
    . split
      . congr 1;funext r;split
        . exact xm h
        . rfl
      . exact Mg fun r=>xm h
    . rfl
  . rfl,fun an σ β κ γ γ' φ hφ e hκ=>by
  split
  . split
    . split
      . rw[lb (k:=fun r=>_),lb (γ:=γ) (k:=fun r=>_)];refine dA fun r=>?_
        split
        . exact uW hφ hκ
        . rfl
      . exact pf hφ (fun r=>uW hφ hκ) hN
    . rfl
  . rfl⟩
 |.goto _=>⟨fun _ _ _ _ _ _ _ _ _ _=>rfl,fun _ _ _ _ _ _ _ _ _ _=>rfl⟩
 |.refuse _=>⟨fun _ _ _ _ _ _ _ _ _ _=>rfl,fun _ _ _ _ _ _ _ _ _ _=>rfl⟩
termination_by c=>SizeOf.sizeOf c
decreasing_by all_goals first|decreasing_tactic|(subst_vars;simp;omega)
def codeOk(n:Nat):Code->Bool
 |.rangeFunc _ _ _ _=>true
 |.seq x y=>codeOk n x&&codeOk n y
 |.cond _ x y=>codeOk n x&&codeOk n y
 |.block _ x=>codeOk n x
 |.scope x=>codeOk n x
 |.loop x=>codeOk n x
 |.region _ ops d=>ops.toList.all (Fb n)&&(!d||D.tidy ops n)
 |_=>true
def eB:Code->List (Array Nat×Code×Code)
 |.seq x y=>eB x++eB y
 |.cond _ x y=>eB x++eB y
 |.block _ x=>eB x
 |.scope x=>eB x
 |.loop x=>eB x
 |.rangeFunc _ ps x y=>[(ps,x,y)]
 |_=>[]
def Ua(K:dN tb)(f n:Nat)(c:Code):Prop:=∀r∈eB c,K.rg (f*1000+qL r.2.1)=some ⟨r.1.toList,r.2.1,r.2.2,n⟩
def toEx:QK->Exit
 |.normal=>.normal
 |.ret=>.ret
 |.exit n=>.exit n
def Cx.ok(rr:Option Nat)(ds:Cx):Prop:=match rr with
 |none=>∃Ds,ds=⟨MN Ds,[.defs Ds]⟩
 |some _=>ds=⟨[],[]⟩
section
variable (P:Program)(K:dN tb)(tt:TypeId->Option (TI S))(Φ:List (gj S))(fa:FA S)(n:Nat)(B:List Nat)(m0:Mem)(rb:Nat->Option Gh)(rr:Option Nat)
def GW(ds:Cx):Prop:=∀(id:Nat) (ops:Array Oper) (γ:Type) (κ:AS S->Option γ) (z:γ) (σ:AS S) (g:GG S) (a:Act) (m:Mem) (L:List bM) (Q:Exit->Act->World->Prop),
 mw tb tt Φ fa false ops ops.toList 0 σ [] (fun σ' lg=>match !true||(uG ops lg&&eY (σ'.ob.map (·.1)))with|true=>κ σ'|false=>none)=some z->codeOk n (.region id ops true)=true->Inv K n ds B m0 rb σ g a m L->
 (∀σ' g' a' m' L',κ σ'=some z->GE g g'->Le m m'->Inv K n ds B m0 rb σ' g' a' m' L'->Q .normal a' m'.w)->(Code.region id ops true).wpIn (FW rr) 0 P Q a m.w
def vp(c:Code)(f:W S):Prop:=∀(an:An) (σ:AS S) (β:Type) (κ:Kp S β) (γ:Type) (emb:β->γ) (z:γ) (g:GG S) (a:Act) (m:Mem) (L:List bM) (Q:Exit->Act->World->Prop) (ds:Cx),ds.ok rr->NK κ->f an σ β κ γ emb=some z->Inv K n ds B m0 rb σ g a m L->
 (∀ex σ' g' a' m' L' (ds':Cx),ds'.ok rr->κ γ emb ex σ'=some z->GE g g'->Le m m'->Inv K n ds' B m0 rb σ' g' a' m' L'->Q (toEx ex) a' m'.w)->c.wpIn (FW rr) 0 P Q a m.w
end
section
variable {n:Nat}{ds:Cx}{B:List Nat}{m0:Mem}{rb:Nat->Option Gh}{rr:Option Nat}
theorem JU{J:JA}{σ σ':AS S}{β γ:Type}{κ:Kp S β}{emb:β->γ}{ex:QK}{u:HT S J.ls}(hκ:NK κ)(h:kJ tb J σ κ emb (HT S J.ls⊕γ) id ex σ'=some (.inl u)):ex=.normal/\pack tb J σ σ'=some u:=by
 cases ex with
 |normal=>
  obtain⟨v,hv,he⟩:=aa.1 h
  have:=au he
  simp only[id]at this
  cases this
  exact⟨rfl,hv⟩
 |ret=>
  have h1:=hκ γ (HT S J.ls⊕γ) .inr yh emb .ret σ'
  have h2:κ (HT S J.ls⊕γ) (fun b=>.inr (emb b)) .ret σ'=some (.inl u):=h
  rw[h1]at h2
  obtain⟨_,_,h3⟩:=ab.1 h2
  cases h3
 |exit k=>
  have h1:=hκ γ (HT S J.ls⊕γ) .inr yh emb (.exit k) σ'
  have h2:κ (HT S J.ls⊕γ) (fun b=>.inr (emb b)) (.exit k) σ'=some (.inl u):=h
  rw[h1]at h2
  obtain⟨_,_,h3⟩:=ab.1 h2
  cases h3
theorem Dp{J:JA}{σ σ':AS S}{β γ:Type}{κ:Kp S β}{emb:β->γ}{ex:QK}{r:γ}(hκ:NK κ)(h:kJ tb J σ κ emb (HT S J.ls⊕γ) id ex σ'=some (.inr r)):κ γ emb ex σ'=some r/\ex≠ .normal:=by
 cases ex with
 |normal=>
  obtain⟨v,hv,he⟩:=aa.1 h
  have:=au he
  simp only[id]at this
  cases this
 |ret=>
  have h1:=hκ γ (HT S J.ls⊕γ) .inr yh emb .ret σ'
  have h2:κ (HT S J.ls⊕γ) (fun b=>.inr (emb b)) .ret σ'=some (.inr r):=h
  rw[h1]at h2
  obtain⟨_,h4,h3⟩:=ab.1 h2
  cases h3
  exact⟨h4,fun e=>by cases e⟩
 |exit k=>
  have h1:=hκ γ (HT S J.ls⊕γ) .inr yh emb (.exit k) σ'
  have h2:κ (HT S J.ls⊕γ) (fun b=>.inr (emb b)) (.exit k) σ'=some (.inr r):=h
  rw[h1]at h2
  obtain⟨_,h4,h3⟩:=ab.1 h2
  cases h3
  exact⟨h4,fun e=>by cases e⟩
theorem KB{next:Act->World->Prop}{Q:Exit->Act->World->Prop}{ex:QK}{a:Act}{w:World}(h:ex≠ .normal)(hq:Q (toEx ex) a w):Exit.then next Q (toEx ex) a w:=by
 cases ex with
 |normal=>exact absurd rfl h
 |ret=>exact hq
 |exit k=>exact hq
theorem Qc{c:Code}{f:W S}(hf:vp P K n B m0 rb rr c f):vp P K n B m0 rb rr c (VU tb c f):=by
 intro an σ β κ γ emb z g a m L Q ds hds hκ h hI hQ;unfold VU at h;split at h
 . rename_i J an';split at h
   . obtain⟨u,hu,h1⟩:=aa.1 h;split at h1
     . rename_i σ1 h2;refine P8 (fun a' w'=>∃σ' g' m' L' ds',ds'.ok rr/\m'.w=w'/\pack tb (J.at_ c σ.fb) σ σ'=some u/\GE g g'/\Le m m'/\Inv K n ds' B m0 rb σ' g' a' m' L') ?_ ?_
       . rintro a' w' ⟨σ',g',m',L',ds',hds',rfl,k1,k2,k3,k4⟩;obtain⟨g1,m1,L1,hw,hle1,k5,k6⟩:=rG hI k4 k2 k3 k1 h2;rw[<- hw];exact hQ .normal σ1 g1 a' m1 L1 ds' hds' h1 k5 hle1 k6
       . refine hf an' σ (HT S J.ls) (kN tb (J.at_ c σ.fb) σ) (HT S J.ls) id u g a m L _ ds hds Xa hu hI fun ex σ' g' a' m' L' ds' hds' k1 k2 k3 k4=>?_
         cases ex with
         |normal=>
          obtain⟨v,hv,he⟩:=aa.1 k1
          have:=au he
          simp only[id]at this
          subst this
          exact⟨σ',g',m',L',ds',hds',rfl,hv,k2,k3,k4⟩
         |ret=>cases k1
         |exit _=>cases k1
     . cases h1
   . obtain⟨zz,hu,h1⟩:=aa.1 h
     cases zz with
     |inl u=>
      have h1':(match unpack tb (J.at_ c σ.fb) σ u with|some σ1=>κ γ emb .normal σ1|none=>none)=some z:=h1
      split at h1'
      . rename_i σ1 h2
        refine P8 (fun a' w'=>∃σ' g' m' L' ds',ds'.ok rr/\m'.w=w'/\pack tb (J.at_ c σ.fb) σ σ'=some u/\GE g g'/\Le m m'/\Inv K n ds' B m0 rb σ' g' a' m' L') ?_ ?_
        . rintro a' w' ⟨σ',g',m',L',ds',hds',rfl,k1,k2,k3,k4⟩
          obtain⟨g1,m1,L1,hw,hle1,k5,k6⟩:=rG hI k4 k2 k3 k1 h2
          rw[<- hw]
          exact hQ .normal σ1 g1 a' m1 L1 ds' hds' h1' k5 hle1 k6
        . refine hf an' σ (HT S J.ls⊕γ) (kJ tb (J.at_ c σ.fb) σ κ emb) (HT S J.ls⊕γ) id (.inl u) g a m L _ ds hds (JV hκ) hu hI fun ex σ' g' a' m' L' ds' hds' k1 k2 k3 k4=>?_
          obtain⟨rfl,k5⟩:=JU (J:=J.at_ c σ.fb) hκ k1
          exact⟨σ',g',m',L',ds',hds',rfl,k5,k2,k3,k4⟩
      . cases h1'
     |inr r=>
      have h1':some r=some z:=h1
      have h1':=au h1'
      rw[h1']at hu
      clear h1
      refine hf an' σ (HT S J.ls⊕γ) (kJ tb (J.at_ c σ.fb) σ κ emb) (HT S J.ls⊕γ) id (.inr z) g a m L _ ds hds (JV hκ) hu hI fun ex σ' g' a' m' L' ds' hds' k1 k2 k3 k4=>?_
      exact hQ ex σ' g' a' m' L' ds' hds' (Dp (J:=J.at_ c σ.fb) hκ k1).1 k2 k3 k4
 . exact hf an σ β κ γ emb z g a m L Q ds hds hκ h hI hQ
variable {σ σ1:AS S}{a:Act}{L:List bM}{g:GG S}{m:Mem}
theorem qZ{c:Code}{f:W S}(hf:vp P K n B m0 rb rr c f):vp P K n B m0 rb rr c (wj tb c f):=by
 intro an σ β κ γ emb z g a m L Q ds hds hκ h hI hQ;unfold wj at h;split at h
 . split at h
   . rename_i σ1 h1;obtain⟨g1,m1,L1,hw,hle,k1,k2⟩:=yn hI h1;rw[<- hw];exact Qc hf _ σ1 β κ γ emb z g1 a m1 L1 Q ds hds hκ h k2 fun ex σ' g' a' m' L' ds' hds' j1 j2 j3 j4=>hQ ex σ' g' a' m' L' ds' hds' j1 (k1.trans j2) (hle.trans j3) j4
   . cases h
 . exact Qc hf _ σ β κ γ emb z g a m L Q ds hds hκ h hI hQ
theorem Qa{Q:Exit->Act->World->Prop}{gop:Operand}{ps:Array Tmp}{fm body:Code}{gf:FuncId}{cap:List Value}{Ds:List Nat}{X:List bM}(hd:a.defers=MN Ds)(hS:St B m0 m (X++[.defs Ds]))(hg:a.eval gop=.func (.func gf) #[] cap.toArray)
 (h:∀l D R m1,Le m m1->MZ R ps a.tmps fm body->St B m0 m1 (.obj l (.loop (R .ready none))::(X++[.defs (D::Ds)]))->Enters P gf/\Calls P gf (.func (.yield l) #[] #[]::cap).toArray m1.w fun e w'=>∃v,e=.returned v/\∃jump w'',(Instr.endLoop l).run P w'= .ok jump w''/\
  (match jump with|none=>Q .normal {a with defers:=MN (D::Ds)} w''|some c=>c.wpIn (FW none) 0 P Q {a with defers:=MN (D::Ds)} w'')):(Code.rangeFunc gop ps fm body).wpIn (FW none) 0 P Q a m.w:=by
 refine wpIn_rangeFunc fun fn _=>?_
 have s1:St B m0 m (.defs Ds::X):=hS.perm aI
 have s2:=s1.newObj (.deferred (some []))
 have s3:=s2.two (e:=.defs (m.w.heap.size::Ds)) rfl (fun h1 h2 D hD=>by
  simp at hD;rcases hD with rfl|hD
  . exact h1
  . exact h2 D hD) (fun _ _ _=>trivial) (fun _ _ _=>trivial)
 let rec_:LoopState->Option Code->Loop:=fun st pe=>{state:=st,pending:=pe,fn:=fn,tmps:=a.tmps,params:=ps,assign:=fm,body:=body,defers:=m.w.heap.size}
 have s4:=s3.newObj (.loop (rec_ .ready none))
 have hl:(m.w.alloc (.deferred (some []))).heap.size=m.w.heap.size+1:=World.size_alloc _ _
 have hle1:Le m ⟨(m.w.alloc (.deferred (some []))).alloc (.loop (rec_ .ready none)),_⟩:=(Le.alloc m (.deferred (some []))).trans (Le.alloc _ (.loop (rec_ .ready none)))
 simp only[hl]at s4
 obtain⟨hen,hcall⟩:=h (m.w.heap.size+1) m.w.heap.size rec_ _ hle1 ⟨fn,m.w.heap.size,rfl⟩ (s4.perm (List.Perm.cons _ (aI (l₁:=[bM.defs (m.w.heap.size::Ds)]))))
 have hargs:(#[.func (.yield (m.w.heap.size+1)) #[] #[]]++cap.toArray:Array Value)=(.func (.yield (m.w.heap.size+1)) #[] #[]::cap).toArray:=by simp
 refine⟨m.w.heap.size+1,[{target:=.collected m.w.heap.size,args:= #[]}],(m.w.alloc (.deferred (some []))).alloc (.loop (rec_ .ready none)),{target:=.fn (.func gf) cap.toArray,args:= #[.func (.yield (m.w.heap.size+1)) #[] #[]]},
  (m.w.alloc (.deferred (some []))).alloc (.loop (rec_ .ready none)),gf,#[.func (.yield (m.w.heap.size+1)) #[] #[]]++cap.toArray,(m.w.alloc (.deferred (some []))).alloc (.loop (rec_ .ready none)),run_enterLoop_outer _ _ _ _ _,?_,fun _ _=>trivial,?_,fun h=>by simp[FW]at h,?_⟩
 . simp only[resolve,hg]
   simp[go_sem]
 . simp only[invoke];exact hen _ _
 . rw[hargs]
   refine(E2 none hcall).mono ?_
   rintro e w ⟨v,rfl,jump,w',hend,hx⟩
   refine⟨jump,w',hend,?_⟩
   have hdd:({a with defers:=[{target:=.collected m.w.heap.size,args:= #[]}]++a.defers}:Act)={a with defers:=MN (m.w.heap.size::Ds)}:=by rw[hd];rfl
   rw[hdd]
   cases jump<;>exact hx
theorem Inv.V9{ds ds':Cx}{a':Act}(hI:Inv K n ds B m0 rb σ g a m L)(ht:a'.tmps=a.tmps)(hd:a'.defers=ds'.d)(hS:St B m0 m (L++ds'.X)):Inv K n ds' B m0 rb σ g a' m L:=by
 have he:∀t,a'.eval (.tmp t)=a.eval (.tmp t):=fun t=>by simp only[Act.eval,ht]
 exact⟨by rw[ht];exact hI.size,hd,fun t bN v h=>by rw[he];exact hI.at_ t bN v h,hI.tm,hI.ob,hS,hI.fresh,hI.rt⟩
theorem Gd(hT:c9 P K tt){gop:Operand}{ps:Array Nat}{x y:Code}{f:FuncId}{caps:List (CV S)}{r:Nat}{γ:Type}{z:γ}{β:Type}{κ:Kp S β}{emb:β->γ}{Q:Exit->Act->World->Prop}{ds:Cx}
 (hds:ds.ok none) (hI:Inv K n ds B m0 rb σ g a m L) (hfb:σ.fb=0) (hop:mF tt σ 0 gop=some (.one (.fn (.func f) [] caps))) (hf:f<=999999) (hrg:K.rg r=some ⟨ps.toList,x,y,n⟩)
 (h:GU P K f (.one (.yl (σ.ct+1))::caps.map vq) (jX σ (.loop r .ready σ.tm)).ob (σ.ct+64) (fun r'=>iA (σ.ct+1) ((jX σ (.loop r .ready σ.tm)).jk none none r') κ emb) z)
 (hQ:∀ex σ' g' a' m' L' (ds':Cx),ds'.ok none->κ γ emb ex σ'=some z->GE g g'->Le m m'->Inv K n ds' B m0 rb σ' g' a' m' L'->Q (toEx ex) a' m'.w):(Code.rangeFunc gop ps x y).wpIn (FW none) 0 P Q a m.w:=by
 obtain⟨Ds,rfl⟩:=hds
 have hop':=Ai hT hI hop
 simp only[bI,bH]at hop'
 obtain⟨v1,v2,e1,e2,e3⟩:=hop'
 simp only[fU]at e2
 subst e2
 simp only[bg,and_true]at e1
 obtain⟨rd,rm,hn,h4⟩:=h
 refine Qa (X:=L) hI.defers hI.st e1 fun l D R m1 hle hR hS=>?_
 let e0:bM:=.obj l (.loop (R .ready none))
 let g1:GG S:={bk:=fun i=>if i=σ.ct+1 then some ⟨some l,none,0,0,default⟩else g.bk i,vv:=g.vv,oo:=fun i=>if i=σ.ct+32 then some (.loop r .ready σ.tm,e0)else g.oo i}
 have ge1:GE g g1:=⟨fun i y hy=>by
  show(if i=σ.ct+1 then _ else g.bk i)=_;rw[if_neg fun e=>by rw[e,(hI.fresh _ (by omega)).1]at hy;cases hy];exact hy,fun _ _ h=>h,fun i y hy=>by
  show(if i=σ.ct+32 then _ else g.oo i)=_;rw[if_neg fun e'=>by rw[e',(hI.fresh _ (by omega)).2.2]at hy;cases hy];exact hy⟩
 have hb1:g1.bk (σ.ct+1)=some ⟨some l,none,0,0,default⟩:=if_pos rfl
 have hobj:gw K g1 m1 (σ.ct+1) (.loop r .ready σ.tm) e0:=⟨_,l,R,_,a.tmps,hb1,rfl,hrg,rfl,by simpa using hR,hI.size,fun t bN v hl=>by
  have h5:=hI.at_ t bN v (by rw[hfb,aJ];exact hl);obtain⟨u,h6,h7⟩:=hI.tm t bN v hl;rw[h5]at h6;have h6:=au h6;subst h6;exact h7.mono ge1 hle⟩
 let a1:Act:={a with defers:=MN (D::Ds)}
 let ds1:Cx:=⟨MN (D::Ds),[.defs (D::Ds)]⟩
 have hI1:Inv K n ds1 B m0 rb (jX σ (.loop r .ready σ.tm)) g1 a1 m1 (e0::L):=by
  refine⟨hI.size,rfl,fun t bN v h=>hI.at_ t bN v h,fun s bN v h=>?_,⟨e0,L,rfl,if_pos rfl,hobj,hI.ob.mono ge1 hle⟩,hS,fun i hi=>⟨?_,?_,?_⟩,⟨hI.rt.1,fun j q hj=>?_⟩⟩
  . obtain⟨u,k1,k2⟩:=hI.tm s bN v h;exact⟨u,k1,k2.mono ge1 hle⟩
  . have hi:σ.ct+64<=i:=hi;show(if i=σ.ct+1 then _ else g.bk i)=_;rw[if_neg (by omega)];exact(hI.fresh i (by omega)).1
  . have hi:σ.ct+64<=i:=hi;exact(hI.fresh i (by omega)).2.1
  . have hi:σ.ct+64<=i:=hi;show(if i=σ.ct+32 then _ else g.oo i)=_;rw[if_neg (by omega)];exact(hI.fresh i (by omega)).2.2
  . obtain⟨h,k1,k2⟩:=hI.rt.2 j q hj;exact⟨h,k1,ge1.bk _ _ k2⟩
 obtain⟨Lr,Lm,Lz,R',Y,q1,q2,q3,p1,p2⟩:=uQ hI1.ob hn
 have hOw:Ow m1 (Lr++Lm):=(hI1.st.ow.left.perm p1).left
 have key:=h4 g1 m1 (.func (.yield l) #[] #[]::v2) Lr Lm (fun i hi _=>hI1.fresh i hi) (K.Bm hI1.rt.1 hI1.st.le) (by
  simp only[cF];refine⟨_,_,rfl,?_,k9 (fU.mono ge1 hle e3)⟩;simp only[bI,bH];exact⟨_,l,hb1,rfl,rfl⟩) q1 q2 hOw
 unfold pT at key
 rw[if_pos hf]at key
 refine⟨key.1,Calls.mono key.2 fun e w' ⟨v,res,hv,h1,er1,er2,h2,hDid⟩=>⟨v,hv,?_⟩⟩
 subst er1;subst er2
 obtain⟨g2,m2,L2,rfl,ge2,hle2,hI2⟩:=D7 hI1 (d:=none) (mv:=none) (fun _ h=>by cases h) h2 q3 p1 p2 hDid (fun _ h=>by cases h)
 have hap:a1.put none v=a1:=rfl
 rw[hap]at hI2
 unfold iA at h1
 simp only at h1
 have fin:∀st tm' rr' ver,look (σ.ct+1) ((jX σ (.loop r .ready σ.tm)).jk none none res).ob=some (ver,.loop rr' st tm')->HO st≠ .busy->∃m3 L3,(Instr.endLoop l).run P m2.w=.ok (Si st) m3.w/\Le m2 m3/\Inv K n ds1 B m0 rb {(jX σ (.loop r .ready σ.tm)).jk none none res with ob:=cZ [σ.ct+1] ((jX σ (.loop r .ready σ.tm)).jk none none res).ob} g2 a1 m3 L3:=fun st tm' rr' ver hlk hst=>by
  obtain⟨e,L0,Rst,ho,hp,hob⟩:=oy (X:=[]) hI2.ob hlk;obtain⟨gh,l',R2,rg,tmps,o1,o2,_,rfl,o5,_,_⟩:=ho;have hb2:=ge2.bk _ _ hb1;rw[hb2]at o1;cases o1;cases o2;have s5:St B m0 m2 (.obj l (.loop (R2 (HO st) (Si st)))::((L0++ds1.X)++Rst)):=hI2.st.perm ((hp.append_right _).trans (by
   rw[aW,az,az];exact List.Perm.cons _ (aX _ aI)))
  obtain⟨m3,r1,r2,r3⟩:=Pn (P:=P) (HO st) (Si st) hst o5 (k:=0) s5 rfl;have r3:=St.ma r3;exact⟨m3,L0,r1,r2,hI2.size,hI2.defers,hI2.at_,fun s bN v h=>(let⟨u,k1,k2⟩:=hI2.tm s bN v h;⟨u,k1,k2.mono (GE.refl _) r2⟩),hob.mono (GE.refl _) r2,r3,hI2.fresh,hI2.rt⟩
 have hds1:ds1.ok none:=⟨D::Ds,rfl⟩
 split at h1
 case h_2=>cases h1
 case h_1 ver rr' st tm' hlk=>
 split at h1
 . obtain⟨m3,L3,r1,r2,r3⟩:=fin _ _ _ _ hlk (by simp[HO])
   exact⟨none,m3.w,r1,hQ .normal _ g2 a1 m3 L3 ds1 hds1 h1 (ge1.trans ge2) ((hle.trans hle2).trans r2) r3⟩
 . obtain⟨m3,L3,r1,r2,r3⟩:=fin _ _ _ _ hlk (by simp[HO])
   exact⟨some .ret,m3.w,r1,wpIn_ret (hQ .ret _ g2 a1 m3 L3 ds1 hds1 h1 (ge1.trans ge2) ((hle.trans hle2).trans r2) r3)⟩
 . obtain⟨m3,L3,r1,r2,r3⟩:=fin _ _ _ _ hlk (by simp[HO])
   exact⟨some (.exit _),m3.w,r1,wpIn_exit (hQ (.exit _) _ g2 a1 m3 L3 ds1 hds1 h1 (ge1.trans ge2) ((hle.trans hle2).trans r2) r3)⟩
 . cases h1
theorem W9{J:JA}{σ σ':AS S}{β γ:Type}{κ:Kp S β}{emb:β->γ}{ex:QK}{u:HT S J.ls}{q ver:Nat}(hκ:NK κ)(h:kM tb q ver J σ κ emb (HT S J.ls⊕γ) id ex σ'=some (.inl u)):ex=.normal/\pack tb J σ σ'=some u/\∃ao,look q σ'.ob=some (ver,ao):=by
 cases ex with
 |normal=>
  simp only[kM]at h
  split at h
  . rename_i v ao hl
    split at h
    . rename_i hv
      obtain rfl:=ah hv
      obtain⟨w,hw,he⟩:=aa.1 h
      have:=au he
      simp only[id]at this
      cases this
      exact⟨rfl,hw,ao,hl⟩
    . cases h
  . cases h
 |ret=>cases(JU (tb:=tb) (J:=J) (σ:=σ) (ex:=.ret) (σ':=σ') (u:=u) hκ h).1
 |exit k=>cases(JU (tb:=tb) (J:=J) (σ:=σ) (ex:=.exit k) (σ':=σ') (u:=u) hκ h).1
theorem Vf{J:JA}{σ σ':AS S}{β γ:Type}{κ:Kp S β}{emb:β->γ}{ex:QK}{r:γ}{q ver:Nat}(hκ:NK κ)(h:kM tb q ver J σ κ emb (HT S J.ls⊕γ) id ex σ'=some (.inr r)):κ γ emb ex σ'=some r/\ex≠ .normal:=by
 cases ex with
 |normal=>
  simp only[kM]at h
  split at h
  . split at h
    . obtain⟨w,hw,he⟩:=aa.1 h
      have:=au he
      simp only[id]at this
      cases this
    . cases h
  . cases h
 |ret=>exact Dp (tb:=tb) (J:=J) (σ:=σ) (ex:=.ret) (σ':=σ') hκ h
 |exit k=>exact Dp (tb:=tb) (J:=J) (σ:=σ) (ex:=.exit k) (σ':=σ') hκ h
theorem Od{ops:Array Oper}{it nx c:Nat}(h:XQ ops=some (it,nx,c)):∃a b,ops.toList=[a,b]/\a.op=.next (.tmp it) false/\a.dst=some nx/\a.guard=none/\b.op=.extract (.tmp nx) 0/\b.dst=some c/\b.guard=none:=by
 unfold XQ at h;split at h
 . rename_i a b he;split at h
   . rename_i h1 h2 h3 h4 h5 h6;split at h
     . rename_i hn;obtain rfl:=ah hn;cases h;exact⟨a,b,he,h1,h2,h3,h4,h5,h6⟩
     . cases h
   . cases h
 . cases h
structure V4(sk:List (Value×Nat))(seen:Array Nat)(R:List Nat):Prop where
 nd:R.Nodup
 lt:∀i∈R,i<sk.length
 mem:∀i p,sk[i]?=some p->(seen.contains p.2=false↔i∈R)
theorem Xc{rest:Code}{f:W S}{an:An}{id0:Nat}{ops:Array Oper}{it nx c out:Nat}(hnx:Nat.ble (nx+1) n=true)(hc:Nat.ble (c+1) n=true)(hhd:XQ ops=some (it,nx,c))(hx:vp P K n B m0 rb rr rest f)
 {J:JA} {σ:AS S} {q:Nat} {β γ:Type} {κ:Kp S β} {emb:β->γ} {z:γ} {g:GG S} {a:Act} {m:Mem} {L:List bM} {Q:Exit->Act->World->Prop} {ds:Cx} (hds:ds.ok rr) (hκ:NK κ)
 (h:So tb J q σ it nx c out (fun σ2 β κ γ emb=>f an σ2 β κ γ emb) κ emb=some z) (hI:Inv K n ds B m0 rb σ g a m L)
 (hQ:∀ex σ' g' a' m' L' (ds':Cx),ds'.ok rr->κ γ emb ex σ'=some z->GE g g'->Le m m'->Inv K n ds' B m0 rb σ' g' a' m' L'->Q (toEx ex) a' m'.w):
 (Code.loop (.seq (.region id0 ops false) (.seq (.cond (.tmp c) .skip (.exit out)) rest))).wpIn (FW rr) 0 P Q a m.w:=by
 have hnx:=aj hnx
 have hc:=aj hc
 unfold So at h
 split at h
 case h_2=>cases h
 case h_1 ver kc o hlq=>
 split at h
 case h_2=>cases h
 case h_1 ver2 t kc1 vc l q1 hlo=>
 split at h
 case h_2=>cases h
 case h_1 hk _ hq1=>
 obtain rfl:=ah hq1
 subst hk
 obtain⟨z0,hz0,h⟩:=aa.1 h
 obtain⟨_,hall⟩:=yH h
 clear h
 simp only[Oo]at hall
 obtain⟨e,he,_,gq,go,r,seen0,j1,j2,j3,j4,rfl,j6⟩:=np hI.ob hlq
 obtain⟨e2,he2,_,gm,b,es0,gq',m1,m2,m3,m4,rfl,m5,m6,m7⟩:=np hI.ob hlo
 rw[j1]at m3;cases m3
 have hseen:seen0= #[]:=j6
 subst hseen
 have hlen:l.length=gq.sk.length:=by
  rw[<- m7,aP];exact m5.sA.len.symm
 have hkey:∀(i:Nat) (p:Value×Nat),gq.sk[i]?=some p->∃y,(l.map (·.1))[i]?=some y/\cM K kc1 m y p.1:=fun i p hp=>by
  rw[<- m7,List.getElem?_map]at hp;obtain⟨e0,he0,rfl⟩:=ab.1 hp;obtain⟨pp,p1,p2⟩:=m5.sA.at he0;exact⟨pp.1,by rw[List.getElem?_map,p1];rfl,p2.1⟩
 let ks:List (T S kc1):=l.map (·.1)
 let F:T S kc1->HT S J.ls->Option (HT S J.ls⊕γ):=fun x z=>match unpack tb J σ z with
  |some σ1=>(match Mf q1 it nx c x σ1 with
   |some σ2=>f an σ2 (HT S J.ls⊕γ) (kM tb q1 (σ1.ct+32) J σ κ emb) (HT S J.ls⊕γ) id
   |none=>none)
  |none=>none
 let E:HT S J.ls->Option γ:=fun z=>match unpack tb J σ z with
  |some σ1=>(match Cm q1 it nx c σ1 with
   |some σ2=>κ γ emb (.exit out) σ2
   |none=>none)
  |none=>none
 refine P9 (fun k a' w'=>∃(zz:HT S J.ls) (R:List Nat) (seen:Array Nat) (ds':Cx),R.length=k/\ds'.ok rr/\V4 gq.sk seen R/\w'.heap[r]?=some (.mapIter (some gq.cap) gq.n seen gq.n)/\
  (∀p:List (T S kc1),p.Perm (R.filterMap fun i=>ks[i]?)->nP F E p zz=some z)/\∀σ1,unpack tb J σ zz=some σ1->∃g1 m1 L1,m1.w=w'/\Le m m1/\GE g g1/\Inv K n ds' B m0 rb σ1 g1 a' m1 L1)
  ⟨_,z0,List.range gq.sk.length,#[],ds,rfl,hds,⟨List.nodup_range,fun i hi=>List.mem_range.1 hi,fun i p hp=>⟨fun _=>List.mem_range.2 (List.getElem?_eq_some_iff.1 hp).1,fun _=>by simp⟩⟩,uA hI he,?_,fun σ1 h2=>rG hI hI (GE.refl g) (Le.refl m) hz0 h2⟩ ?_
 . intro p hp
   refine hall p (hp.trans ?_)
   have:(List.range gq.sk.length).filterMap (fun i=>ks[i]?)=l.map (·.1):=by
    rw[<- hlen,<- aP (f:=fun x:T S kc1×T S vc=>x.1)];exact Mn _
   rw[this]
 . rintro k a' w' ⟨zz,R,seen,ds',rfl,hds',hL,hheap,hfold,hinv⟩
   have hu:∃σ1,unpack tb J σ zz=some σ1/\HV q1 it σ1=true:=by
    have h1:=hfold _ (List.Perm.refl _);cases hp:R.filterMap (fun i=>ks[i]?)with
    |nil=>
     rw[hp]at h1
     simp only[nP,E]at h1
     split at h1
     . rename_i σ1 hs1
       split at h1
       . rename_i hs2;exact⟨σ1,hs1,OH hs2⟩
       . cases h1
     . cases h1
    |cons x p=>
     rw[hp]at h1
     simp only[nP]at h1
     obtain⟨y,hy,_⟩:=aa.1 h1
     simp only[F]at hy
     split at hy
     . rename_i σ1 hs1
       split at hy
       . rename_i hs2;exact⟨σ1,hs1,Sm hs2⟩
       . cases hy
     . cases hy
   obtain⟨σ1,hs1,hat⟩:=hu
   obtain⟨g1,m1',L1,rfl,le1,ge1,hI1⟩:=hinv σ1 hs1
   obtain⟨ver',o',ver2',t',kc',vc',st',l',gq',r',seen',es',hA⟩:=Sk hI1 hat
   have eg:=hA.bk
   rw[ge1.bk _ _ j1]at eg
   cases eg
   have er:=hA.gr
   rw[j2]at er
   cases er
   have es_:=hA.hr
   rw[hheap]at es_
   cases es_
   have hst:=(MapKept.stamped_iff es' gq.n).1 hA.mp.st
   obtain⟨oa,ob,e0,a1,a2,a3,b1,b2,b3⟩:=Od hhd
   have hsz:a'.tmps.size=n:=hI1.size
   refine GJ (A7 ?_)
   rw[e0]
   rcases run_next_at (P:=P) m1'.w oa.type r gq.cap gq.n gq.n seen es' gq.n hheap hA.hb hst.1 (Nat.le_refl _)with⟨h0,hrun⟩|⟨en,hen,w1,hw1,hrun⟩
   ·
    have hR:R=[]:=by
     cases R with
     |nil=>rfl
     |cons i R'=>
      exfalso
      have hi:=hL.lt i aq
      obtain⟨pi,hp⟩:∃p,gq.sk[i]?=some p:=⟨_,List.getElem?_eq_getElem hi⟩
      have hns:=(hL.mem i _ hp).2 aq
      rw[<- hA.sk,List.getElem?_map]at hp
      obtain⟨e0',he0',hpe⟩:=ab.1 hp
      have:e0'∈(leftOf es' seen).toList:=by
       rw[<- hpe]at hns;simp only at hns;unfold leftOf;simp only[Array.toList_filter,bm];exact⟨List.mem_of_getElem? he0',by rw[hns];rfl⟩
      have h1:(leftOf es' seen).toList.length=0:=by simpa using h0
      rw[List.length_eq_zero_iff.1 h1]at this
      cases this
    subst hR
    have hend:=hfold [] (List.Perm.refl _)
    simp only[nP,E,hs1]at hend
    split at hend
    case h_2=>cases hend
    case h_1 σ2 hs2=>
    obtain⟨g2,L2,ge2,hI2⟩:=OI hI1 hA hs2 (.tuple #[.bool false]) (.bool false)
    have st1:bC P oa a' m1'.w fun v w=>v=.tuple #[.bool false]/\w=m1'.w:=by
     unfold bC;have:(execOp a'.eval oa).run P m1'.w=.ok (.value (.tuple #[.bool false])) m1'.w:=by simp[execOp,a1,hA.ev,hrun]
     rw[this];exact⟨rfl,rfl⟩
    refine wpListIn_plain a3 fun KK hKK=>st1.wp fun v w' ⟨hv,hw⟩=>?_
    subst hv;subst hw
    refine hKK _ _ ?_
    rw[a2]
    have hev:(a'.put (some nx) (.tuple #[.bool false])).eval (.tmp nx)=.tuple #[.bool false]:=D.gi (by rw[hsz];exact hnx)
    have st2:bC P ob (a'.put (some nx) (.tuple #[.bool false])) m1'.w fun v w=>v=.bool false/\w=m1'.w:=by
     unfold bC;have:(execOp (a'.put (some nx) (.tuple #[.bool false])).eval ob).run P m1'.w=.ok (.value (.bool false)) m1'.w:=by simp[execOp,b1,hev,Instr.extract]
     rw[this];exact⟨rfl,rfl⟩
    refine wpListIn_plain b3 fun K2 hK2=>st2.wp fun v w' ⟨hv,hw⟩=>?_
    subst hv;subst hw
    refine hK2 _ _ (wpListIn_nil (wI ?_))
    rw[b2]
    have hcv:((a'.put (some nx) (.tuple #[.bool false])).put (some c) (.bool false)).eval (.tmp c)=.bool false:=D.gi (by rw[show(a'.put (some nx) (.tuple #[.bool false])).tmps.size=n by simp[Act.put,hsz]];exact hc)
    exact GJ (wpIn_cond_false hcv (wpIn_exit (P2 (P2 (hQ (.exit out) σ2 g2 _ m1' L2 ds' hds' hend (ge1.trans ge2) le1 hI2)))))
   ·
    have hen2:en∈es'.toList/\seen.contains en.born=false:=by
     unfold leftOf at hen;simp only[Array.toList_filter,bm]at hen;exact⟨hen.1,by simpa using hen.2⟩
    obtain⟨i,hi⟩:=List.mem_iff_getElem?.1 hen2.1
    have hsk:gq.sk[i]?=some (en.key,en.born):=by rw[<- hA.sk,List.getElem?_map,hi];rfl
    have hiR:i∈R:=(hL.mem i _ hsk).1 hen2.2
    obtain⟨x,hx1,hx2⟩:=hkey i _ hsk
    have hx1:ks[i]?=some x:=hx1
    have hpm:∀p':List (T S kc1),p'.Perm ((R.erase i).filterMap fun i=>ks[i]?)->nP F E (x::p') zz=some z:=fun p' hp'=>by
     refine hfold _ (List.Perm.symm ?_);have h1:=(List.perm_cons_erase hiR).filterMap fun i=>ks[i]?
     refine h1.trans ?_;rw[List.filterMap_cons,hx1];exact List.Perm.cons _ hp'.symm
    have hF:=hpm _ (List.Perm.refl _)
    simp only[nP]at hF
    obtain⟨y,hy,_⟩:=aa.1 hF
    clear hF
    have hy0:=hy
    simp only[F,hs1]at hy
    split at hy
    case h_2=>cases hy
    case h_1 σ2 hs2=>
    obtain⟨g2,m2',L2,hw2,le2,ge2,hI2,ao2,hoo⟩:=Sn hI1 hA hs2 hw1 hsk (cM.mono K le1 hx2) (.tuple #[.bool true,en.key,en.val]) (.bool true)
    have st1:bC P oa a' m1'.w fun v w=>v=.tuple #[.bool true,en.key,en.val]/\w=m2'.w:=by
     unfold bC;have:(execOp a'.eval oa).run P m1'.w=.ok (.value (.tuple #[.bool true,en.key,en.val])) m2'.w:=by
      rw[hw2];simp[execOp,a1,hA.ev,hrun]
     rw[this];exact⟨rfl,rfl⟩
    refine wpListIn_plain a3 fun KK hKK=>st1.wp fun v w' ⟨hv,hw⟩=>?_
    subst hv;subst hw
    refine hKK _ _ ?_
    rw[a2]
    have hev:(a'.put (some nx) (.tuple #[.bool true,en.key,en.val])).eval (.tmp nx)=.tuple #[.bool true,en.key,en.val]:=D.gi (by rw[hsz];exact hnx)
    have st2:bC P ob (a'.put (some nx) (.tuple #[.bool true,en.key,en.val])) m2'.w fun v w=>v=.bool true/\w=m2'.w:=by
     unfold bC;have:(execOp (a'.put (some nx) (.tuple #[.bool true,en.key,en.val])).eval ob).run P m2'.w=.ok (.value (.bool true)) m2'.w:=by simp[execOp,b1,hev,Instr.extract]
     rw[this];exact⟨rfl,rfl⟩
    refine wpListIn_plain b3 fun K2 hK2=>st2.wp fun v w' ⟨hv,hw⟩=>?_
    subst hv;subst hw
    refine hK2 _ _ (wpListIn_nil (wI ?_))
    rw[b2]
    have hcv:((a'.put (some nx) (.tuple #[.bool true,en.key,en.val])).put (some c) (.bool true)).eval (.tmp c)=.bool true:=D.gi (by rw[show(a'.put (some nx) (.tuple #[.bool true,en.key,en.val])).tmps.size=n by simp[Act.put,hsz]];exact hc)
    refine GJ (wpIn_cond_true hcv (wpIn_skip (wI ?_)))
    refine hx an σ2 (HT S J.ls⊕γ) (kM tb q1 (σ1.ct+32) J σ κ emb) (HT S J.ls⊕γ) id y g2 _ m2' L2 _ ds' hds' (TL hκ) hy hI2 fun ex σ' g' a'' m' L' ds2 hds2 k1 k2 k3 k4=>?_
    cases y with
    |inl z'=>
     obtain⟨rfl,hpk,ao,hl'⟩:=W9 hκ k1
     obtain⟨ee,hee,hoo',_⟩:=np k4.ob hl'
     rw[k2.oo _ _ hoo]at hoo'
     cases hoo'
     have hlenE:(R.erase i).length<R.length:=by
      have:=List.length_erase_of_mem hiR;have:0<R.length:=List.length_pos_of_mem hiR;omega
     refine wI ⟨(R.erase i).length,hlenE,z',R.erase i,seen.push en.born,ds2,rfl,hds2,⟨hL.nd.erase i,fun j hj=>hL.lt j (List.mem_of_mem_erase hj),fun j p hp=>?_⟩,uA k4 hee,fun p' hp'=>?_,fun σ3 h3=>?_⟩
     . rw[hL.nd.mem_erase_iff]
       by_cases hji:j=i
       . subst hji
         rw[hsk]at hp;cases hp
         simp
       . have hne:p.2≠en.born:=fun e=>by
          have n1:=hst.2.1;rw[<- hA.sk,List.getElem?_map]at hp;obtain⟨ej,hej,hpe⟩:=ab.1 hp;rw[<- hpe]at e;simp only at e;have hj1:(es'.toList.map (·.born))[j]?=some en.born:=by rw[List.getElem?_map,hej];simp[e]
          have hi1:(es'.toList.map (·.born))[i]?=some en.born:=by rw[List.getElem?_map,hi];rfl
          exact hji ((List.getElem?_inj (List.getElem?_eq_some_iff.1 hj1).1 n1).1 (hj1.trans hi1.symm))
         rw[<- hL.mem j p hp]
         simp[hji,hne]
     . have:=hpm p' hp'
       simp only[nP,hy0,ae]at this
       exact this
     . exact rG hI k4 ((ge1.trans ge2).trans k2) ((le1.trans le2).trans k3) hpk h3
    |inr rr'=>
     obtain⟨k5,k6⟩:=Vf hκ k1
     have:=hpm _ (List.Perm.refl _)
     simp only[nP,hy0,ae,af]at this
     subst this
     exact KB k6 (hQ ex σ' g' a'' m' L' ds2 hds2 k5 ((ge1.trans ge2).trans k2) ((le1.trans le2).trans k3) k4)
theorem Xe{fa:FA S}(hΨ:∀c∈fa.nd,n5 P K c):∀c∈fa.nd,c.Nat:=fun c hc=>(hΨ c hc).nat
theorem oH(hT:c9 P K tt)(hΦ:∀c∈Φ,Sound P K c)(hΨ:∀c∈fa.nd,n5 P K c)(hrr:fa.rd=false->rr=none)(hD:∀ds,GW P K tt Φ fa n B m0 rb rr ds):∀c:Code,codeOk n c=true->Ua K fa.fn n c->vp P K n B m0 rb rr c (xc tb tt Φ fa c)
 |.skip,_,_=>qZ fun an σ β κ γ emb z g a m L Q ds hds hκ h hI hQ=>wpIn_skip (hQ .normal σ g a m L ds hds h (GE.refl g) (Le.refl m) hI)
 |.label l,_,_=>by
  have:xc tb tt Φ fa (.label l)=wj tb (.label default) fun _ σ _ κ γ emb=>κ γ emb .normal σ:=rfl
  rw[this];intro an σ β κ γ emb z g a m L Q ds hds hκ h hI hQ;refine qZ (c:=.label l) (f:=fun _ σ _ κ γ emb=>κ γ emb .normal σ) (fun an σ β κ γ emb z g a m L Q ds hds hκ h hI hQ=>wpIn_label (hQ .normal σ g a m L ds hds h (GE.refl g) (Le.refl m) hI)) an σ β κ γ emb z g a m L Q ds hds hκ h hI hQ
 |.ret,_,_=>qZ fun an σ β κ γ emb z g a m L Q ds hds hκ h hI hQ=>wpIn_ret (hQ .ret σ g a m L ds hds h (GE.refl g) (Le.refl m) hI)
 |.exit k,_,_=>qZ fun an σ β κ γ emb z g a m L Q ds hds hκ h hI hQ=>wpIn_exit (hQ (.exit k) σ g a m L ds hds h (GE.refl g) (Le.refl m) hI)
 |.seq x y,hc,hg=>qZ (by
  simp only[codeOk,al]at hc;have hx:=oH hT hΦ hΨ hrr hD x hc.1 fun r hr=>hg r (aQ _ hr)
  have hy:=oH hT hΦ hΨ hrr hD y hc.2 fun r hr=>hg r (aY _ hr)
  intro an σ β κ γ emb z g a m L Q ds hds hκ h hI hQ;refine GJ (hx an.l1 σ β (kS (xc tb tt Φ fa y) an.r1 κ) γ emb z g a m L _ ds hds (TM (oG (Xe hΨ) y) hκ) h hI fun ex σ' g' a' m' L' ds' hds' k1 k2 k3 k4=>?_)
  cases ex with
  |normal=>exact hy an.r1 σ' β κ γ emb z g' a' m' L' Q ds' hds' hκ k1 k4 fun ex2 σ2 g2 a2 m2 L2 ds2 hds2 j1 j2 j3 j4=>hQ ex2 σ2 g2 a2 m2 L2 ds2 hds2 j1 (k2.trans j2) (k3.trans j3) j4
  |ret=>exact hQ .ret σ' g' a' m' L' ds' hds' k1 k2 k3 k4
  |exit k=>exact hQ (.exit k) σ' g' a' m' L' ds' hds' k1 k2 k3 k4)
 |.cond c x y,hc,hg=>qZ (by
  simp only[codeOk,al]at hc;have hx:=oH hT hΦ hΨ hrr hD x hc.1 fun r hr=>hg r (aQ _ hr)
  have hy:=oH hT hΦ hΨ hrr hD y hc.2 fun r hr=>hg r (aY _ hr)
  intro an σ β κ γ emb z g a m L Q ds hds hκ h hI hQ;simp only at h;split at h
  . rename_i t;split at h
    . rename_i bN v hv;obtain⟨e1,e2⟩:=hI.slot hv;simp only[bI]at e2;split at h
      . simp only[bH,bg,and_true]at e2;exact wpIn_cond_true e2 (hx _ σ β κ γ emb z g a m L Q ds hds hκ h hI hQ)
      . simp only[bH,bg,and_true]at e2;exact wpIn_cond_false e2 (hy _ σ β κ γ emb z g a m L Q ds hds hκ h hI hQ)
      . rename_i b p d hbp;simp only[bH,bg,and_true]at e2;split at h
        . rename_i hp;have hb:=hbp.2 hp;subst hb;exact wpIn_cond_true e2 (hx _ _ β κ γ emb z g a m L Q ds hds hκ h (mI hI (by rw[e1,e2])) hQ)
        . rename_i hp;have hb:b=false:=by cases hb:b with|false=>rfl|true=>exact absurd (hbp.1 hb) hp
          subst hb;exact wpIn_cond_false e2 (hy _ _ β κ γ emb z g a m L Q ds hds hκ h (mI hI (by rw[e1,e2])) hQ)
      . simp only[bH]at e2;obtain⟨b,e2,_⟩:=e2;simp only[bg,and_true]at e2;obtain⟨h1,h2⟩:=G2 h
        cases b with
        |true=>exact wpIn_cond_true e2 (hx _ _ β κ γ emb z g a m L Q ds hds hκ h1 (mI hI (by rw[e1,e2])) hQ)
        |false=>exact wpIn_cond_false e2 (hy _ _ β κ γ emb z g a m L Q ds hds hκ h2 (mI hI (by rw[e1,e2])) hQ)
      . simp only[bH]at e2;obtain⟨b,e2,hb⟩:=e2;simp only[bg,and_true]at e2
        cases b with
        |true=>exact wpIn_cond_true e2 (hx _ _ β κ γ emb z g a m L Q ds hds hκ h (mI hI (by rw[e1,e2])) hQ)
        |false=>exact absurd (hb (by simp)) (by simp)
      . simp only[bH]at e2;obtain⟨b,e2,hb⟩:=e2;simp only[bg,and_true]at e2
        cases b with
        |true=>exact absurd (hb (by simp)) (by simp)
        |false=>exact wpIn_cond_false e2 (hy _ _ β κ γ emb z g a m L Q ds hds hκ h (mI hI (by rw[e1,e2])) hQ)
      . cases h
    . cases h
  . exact wpIn_cond_true rfl (hx _ σ β κ γ emb z g a m L Q ds hds hκ h hI hQ)
  . exact wpIn_cond_false rfl (hy _ σ β κ γ emb z g a m L Q ds hds hκ h hI hQ)
  . cases h)
 |.block id body,hc,hg=>qZ (by
  have hx:=oH hT hΦ hΨ hrr hD body hc hg;intro an σ β κ γ emb z g a m L Q ds hds hκ h hI hQ;refine wpIn_block (hx an.l1 σ β (kB id κ) γ emb z g a m L _ ds hds (TJ hκ) h hI fun ex σ' g' a' m' L' ds' hds' k1 k2 k3 k4=>?_)
  cases ex with
  |normal=>exact hQ .normal σ' g' a' m' L' ds' hds' k1 k2 k3 k4
  |ret=>exact hQ .ret σ' g' a' m' L' ds' hds' k1 k2 k3 k4
  |exit k=>
   simp only[kB]at k1
   split at k1
   . rename_i he
     obtain rfl:=ah he
     exact Wh (hQ .normal σ' g' a' m' L' ds' hds' k1 k2 k3 k4)
   . rename_i he
     exact Wi (Nat.ne_of_beq_eq_false he) (hQ (.exit k) σ' g' a' m' L' ds' hds' k1 k2 k3 k4))
 |.scope body,hc,hg=>qZ (by
  have hx:=oH hT hΦ hΨ hrr hD body hc hg;intro an σ β κ γ emb z g a m L Q ds hds hκ h hI hQ;refine Tl (hx an.l1 σ β κ γ emb z g a m L _ ds hds hκ h hI fun ex σ' g' a' m' L' ds' hds' k1 k2 k3 k4=>?_);have:=hQ ex σ' g' a' m' L' ds' hds' k1 k2 k3 k4;cases ex<;>exact this)
 |.loop body,hc,hg=>by
  rw[xc];exact qZ (by
   have hx:=oH hT hΦ hΨ hrr hD body hc hg;intro an σ β κ γ emb z g a m L Q ds hds hκ h hI hQ;simp only at h;split at h
   . rename_i J an';obtain⟨z0,hz0,h1⟩:=aa.1 h;refine Tj h1 (fun u a' w'=>∃ds',ds'.ok rr/\∀σ1,unpack tb (J.at_ (.loop body) σ.fb) σ u=some σ1->∃g1 m1 L1,m1.w=w'/\Le m m1/\GE g g1/\Inv K n ds' B m0 rb σ1 g1 a' m1 L1) ⟨ds,hds,fun σ1 h2=>?_⟩ ?_
     . exact rG hI hI (GE.refl g) (Le.refl m) hz0 h2
     . rintro k u x a' w' ⟨ds',hds',j2⟩ hx1 hn;split at hx1
       . rename_i σ1 h2;obtain⟨g1,m',L1,hw',j1,j3,j4⟩:=j2 σ1 h2;rw[<- hw'];refine hx an' σ1 (HT S J.ls⊕γ) (kJ tb (J.at_ (.loop body) σ.fb) σ κ emb) (HT S J.ls⊕γ) id x g1 a' m' L1 _ ds' hds' (JV hκ) hx1 j4 fun ex σ' g' a2 m2 L2 ds2 hds2 k1 k2 k3 k4=>?_
         cases x with
         |inl u'=>
          obtain⟨rfl,k5⟩:=JU (J:=J.at_ (.loop body) σ.fb) hκ k1
          refine wI (Sg (I:=(fun u a' w'=>∃ds',ds'.ok rr/\∀σ1,unpack tb (J.at_ (.loop body) σ.fb) σ u=some σ1->∃g1 m1 L1,m1.w=w'/\Le m m1/\GE g g1/\Inv K n ds' B m0 rb σ1 g1 a' m1 L1)) hn ⟨ds2,hds2,fun σ2 h3=>?_⟩)
          exact rG hI k4 (j3.trans k2) (j1.trans k3) k5 h3
         |inr r=>
          obtain⟨k5,k6⟩:=Dp (J:=J.at_ (.loop body) σ.fb) hκ k1
          have:r=z:=hn
          subst this
          exact KB k6 (hQ ex σ' g' a2 m2 L2 ds2 hds2 k5 (j3.trans k2) (j1.trans k3) k4)
       . cases hx1
   . split at h
     . rename_i rid ops c' out rest;split at h
       . rename_i it nx c hhd;split at h
         . rename_i hcc;obtain rfl:=ah hcc;have hc2:=hc;simp only[codeOk,al,Bool.not_false,Bool.true_or,and_true]at hc2;obtain⟨o1,o2,e0,_,e2,_,_,e5,_⟩:=Od hhd;rw[e0]at hc2;simp only[List.all_cons,Fb,e2,e5,al]at hc2;exact Xc hc2.1.1 hc2.1.2.1 hhd (oH hT hΦ hΨ hrr hD rest hc2.2.2 fun r hr=>hg r (aY _ (aY _ hr))) hds hκ h hI hQ
         . cases h
       . cases h
     . cases h
   . cases h)
 |.region id ops draw,hc,_=>by
  intro an σ β κ γ emb z g a m L Q ds hds hκ h hI hQ;refine qZ (c:=.region id ops draw) (f:=fun _ σ _ κ γ emb=>mw tb tt Φ fa (!draw) ops ops.toList 0 σ [] fun σ' lg=>match !draw||(uG ops lg&&eY (σ'.ob.map (·.1)))with
   |true=>κ γ emb .normal σ'
   |false=>none) (fun an σ β κ γ emb z g a m L Q ds hds hκ h hI hQ=>?_) an σ β κ γ emb z g a m L Q ds hds hκ h hI hQ
  cases draw with
  |true=>exact hD ds id ops γ (fun σ'=>κ γ emb .normal σ') z σ g a m L Q h hc hI fun σ' g' a' m' L' k1 k2 k3 k4=>hQ .normal σ' g' a' m' L' ds hds k1 k2 k3 k4
  |false=>
   simp only[codeOk,al]at hc
   exact A7 (uk hT hΦ hΨ h hc.1 hI fun σ' lg g' a' m' L' k1 k2 k3 k4=>hQ .normal σ' g' a' m' L' ds hds k1 k2 k3 k4)
 |.rangeFunc gop ps x y,_,hg=>qZ fun an σ β κ γ emb z g a m L Q ds hds hκ h hI hQ=>by
  split at h
  . rename_i f caps hrd hfb hop;split at h
    . rename_i hf;obtain rfl:=hrr hrd;split at h
      . exact Gd hT hds hI hfb hop (aj hf) (hg (ps,x,y) aq) (G9 hΦ h) hQ
      . exact Gd hT hds hI hfb hop (aj hf) (hg (ps,x,y) aq) (rL hΨ h) hQ
    . cases h
  . cases h
 |.goto _,_,_=>fun an σ β κ γ emb z g a m L Q ds hds hκ h hI hQ=>by cases h
 |.refuse _,_,_=>fun an σ β κ γ emb z g a m L Q ds hds hκ h hI hQ=>by cases h
end
end E
end
section
open Go.RowKit G
namespace E
variable {S:Nat->Type}{tb:Tb S}{K:dN tb}{P:Program}{tt:TypeId->Option (TI S)}{Φ:List (gj S)}{fa:FA S}{g:GG S}{m:Mem}
theorem sP:∀{l:List (AV S)} {i t bN:Nat} {v:AV S},look t (Ja i l)=some (bN,v)->bN=64+t/\i<=t/\l[t-i]?=some v
 |[],i,t,bN,v,h=>by cases h
 |a::l,i,t,bN,v,h=>by
  simp only[Ja,bL]at h;by_cases e:i=t
  . subst e;rw[if_pos rfl]at h;cases h;exact⟨rfl,Nat.le_refl _,by simp⟩
  . rw[if_neg e]at h;obtain⟨h1,h2,h3⟩:=sP h;refine⟨h1,by omega,?_⟩;rw[show t-i=(t-(i+1))+1 by omega];simpa using h3
theorem EY:∀{vs:List Value} {i t:Nat} {v:Value},i<=t->vs[t-i]?=some v->lk (tR i vs) t=some v
 |[],i,t,v,_,h=>by simp at h
 |u::vs,i,t,v,hi,h=>by
  unfold tR lk;by_cases e:i=t
  . subst e;simp at h;subst h;simp
  . rw[ko e];refine EY (by omega) ?_;rw[show t-i=(t-(i+1))+1 by omega]at h;simpa using h
theorem yP:∀{aS:List (AV S)} {us:List Value} {i:Nat} {v:AV S},cF K g m aS us->aS[i]?=some v->∃u,us[i]?=some u/\bI K g m v u
 |[],us,i,v,_,h=>by simp at h
 |a::aS,us,i,v,hr,h=>by
  simp only[cF]at hr;obtain⟨x,r,rfl,h1,h2⟩:=hr
  cases i with
  |zero=>simp at h;subst h;exact⟨x,rfl,h1⟩
  |succ i=>obtain⟨u,k1,k2⟩:=yP h2 (by simpa using h);exact⟨u,by simpa using k1,k2⟩
theorem yQ:∀{aS:List (AV S)} {us:List Value},cF K g m aS us->us.length=aS.length
 |[],us,h=>by simp only[cF]at h;subst h;rfl
 |a::aS,us,h=>by simp only[cF]at h;obtain⟨x,r,rfl,h1,h2⟩:=h;simp[yQ h2]
theorem vK{ids:Nat->Nat}:∀{l:List PS} {ds ds':List (fC S)} {aS:List (AV S)},PS.dP tb ids l ds=some (aS,ds')->aS.length=l.length
 |[],ds,ds',aS,h=>by simp only[PS.dP]at h;cases h;rfl
 |s::l,ds,ds',aS,h=>by
  simp only[PS.dP]at h;obtain⟨p,hp,h⟩:=aa.1 h;obtain⟨⟨q1,q2⟩,hq,h⟩:=ab.1 h;cases h;simp[vK hq]
theorem zZ{ids:Nat->Nat}:∀{l:List OS} {ds ds':List (fC S)} {aS:List (AO S)},OS.dP tb ids l ds=some (aS,ds')->aS.length=l.length
 |[],ds,ds',aS,h=>by simp only[OS.dP]at h;cases h;rfl
 |s::l,ds,ds',aS,h=>by
  simp only[OS.dP]at h;obtain⟨p,hp,h⟩:=aa.1 h;obtain⟨⟨q1,q2⟩,hq,h⟩:=ab.1 h;cases h;simp[zZ hq]
theorem CD{ids:Nat->Nat}:∀{l:List (AO S)} {L:List bM} {o i:Nat} {a:AO S},GY K g m ids o l L->l[i]?=some a->∃e,L[i]?=some e/\gw K g m (ids (o+i)) a e
 |[],L,o,i,a,_,h=>by simp at h
 |x::l,L,o,i,a,hr,h=>by
  obtain⟨e,L',rfl,h1,h2⟩:=hr
  cases i with
  |zero=>simp at h;subst h;exact⟨e,rfl,h1⟩
  |succ i=>
   obtain⟨f,k1,k2⟩:=CD h2 (by simpa using h)
   exact⟨f,by simpa using k1,by rw[show o+(i+1)=o+1+i by omega];exact k2⟩
theorem Sw{q:Nat}{a:AO S}{e:bM}(h:gw K g m q a e):∃gh,g.bk q=some gh:=by
 cases a with
 |box T cs=>obtain⟨gh,b,vs,h1,_⟩:=h;exact⟨gh,h1⟩
 |row T c=>obtain⟨gh,h1,_⟩:=h;exact⟨gh,h1⟩
 |arr T c f l=>obtain⟨gh,cs,h1,_⟩:=h;exact⟨gh,h1⟩
 |loop r st tm=>obtain⟨gh,_,_,_,_,h1,_⟩:=h;exact⟨gh,h1⟩
 |map t kc vc l hole=>obtain⟨gh,_,_,_,h1,_⟩:=h;exact⟨gh,h1⟩
 |nI t et kc c l hole=>obtain⟨gh,_,_,_,_,h1,_⟩:=h;exact⟨gh,h1⟩
 |jv t kc vc l hole q=>obtain⟨gh,_,_,_,h1,_⟩:=h;exact⟨gh,h1⟩
 |pO kc o st=>obtain⟨gh,_,_,_,h1,_⟩:=h;exact⟨gh,h1⟩
 |BD t kc l=>obtain⟨gh,_,_,_,h1,_⟩:=h;exact⟨gh,h1⟩
theorem GY.mono{g':GG S}{m':Mem}{ids:Nat->Nat}(hg:GE g g')(hm:Le m m'):∀{l:List (AO S)} {L:List bM} {o:Nat},GY K g m ids o l L->GY K g' m' ids o l L
 |[],_,_,h=>h
 |_::_,_,_,⟨e,L',h1,h2,h3⟩=>⟨e,L',h1,h2.mono hg hm,GY.mono hg hm h3⟩
theorem AY{c:gj S}{x:HT S c.ls}{σ:AS S}{bk:Nat->Option Gh}{vals:List Value}{L:List bM}{n:Nat}{a:Act}(h:start tb c x=some σ)(hb:∀i,c.eZ.length<=i->bk i=none)
 (GP:∀ds args ds1 eZ ds2,kF c.bk (nG c.ls x)=some ds->PS.dP tb id c.ins ds=some (args,ds1)->OS.dP tb id c.eZ ds1=some (eZ,ds2)->cF K (MO bk) m args vals/\GY K (MO bk) m id 0 eZ L) (hO:Ow m L) (hB:K.B m)
 (hn:c.ins.length<=190) (hK:Kn n a (tR 0 vals)):∃g0,Inv K n ⟨[],[]⟩ (bF L) m bk σ g0 a m L/\(∀(i ver:Nat) ao,look i σ.ob=some (ver,ao)->∃e,L[i]?=some e/\g0.oo ver=some (ao,e)):=by
 unfold start at h
 obtain⟨ds,hds,h⟩:=aa.1 h
 obtain⟨⟨args,ds1⟩,hp,h⟩:=aa.1 h
 obtain⟨⟨eZ,ds2⟩,hq,h⟩:=aa.1 h
 simp only[af]at h hq
 subst h
 obtain⟨hA,hL⟩:=GP ds args ds1 eZ ds2 hds hp hq
 have hlen:=yQ hA
 rw[vK hp]at hlen
 have hol:=zZ hq
 have hLl:=CE hL
 have hfew:=c.vm
 simp only[al]at hfew
 have hf1:=aj hfew.1
 let g0:GG S:={bk:=bk,vv:=fun i=>if 64<=i then vals[i-64]? else none,oo:=fun i=>match eZ[i]?,L[i]? with|some a,some e=>some (a,e)|_,_=>none}
 have ge:GE (MO bk) g0:=⟨fun _ _ h=>h,fun i y hy=>(by cases hy),fun i y hy=>(by cases hy)⟩
 have hL':=GY.mono ge (Le.refl m) hL
 refine⟨g0,⟨hK.size,hK.defers,fun t bN v hs=>?_,fun s bN v hs=>?_,FX hL' (fun i=>rfl) fun i b e hb' he=>?_,by rw[aU];exact St.refl hO,fun i hi=>⟨hb i ?_,?_,?_⟩,⟨hB,fun j q hj=>?_⟩⟩,fun i ver ao hi=>?_⟩
 . simp only[aJ]at hs
   obtain⟨rfl,_,h2⟩:=sP hs
   obtain⟨u,h3,h4⟩:=yP hA h2
   show(if _ then _ else _)=_
   rw[if_pos (by omega),show 64+t-64=t by omega]
   simp only[Nat.sub_zero]at h3
   rw[h3,hK.at_ t u (EY (Nat.zero_le _) (by simpa using h3))]
 . obtain⟨rfl,_,h2⟩:=sP hs
   obtain⟨u,h3,h4⟩:=yP hA h2
   refine⟨u,?_,h4.mono ge (Le.refl m)⟩
   show(if _ then _ else _)=_
   rw[if_pos (by omega),show 64+s-64=s by omega]
   simpa using h3
 . show(match eZ[0+i]?,L[0+i]? with|some a,some e=>some (a,e)|_,_=>none)=_
   rw[aJ,hb',he]
 . simp only at hi;omega
 . simp only at hi
   show(if _ then _ else _)=_
   rw[if_pos (by omega),List.getElem?_eq_none (by omega)]
 . simp only at hi
   show(match eZ[i]?,L[i]? with|some a,some e=>some (a,e)|_,_=>none)=_
   rw[List.getElem?_eq_none (l:=eZ) (by omega)]
 . simp only at hj
   have hj1:j<c.eZ.length:=by
    have:=(List.getElem?_eq_some_iff.1 hj).1;simpa using this
   rw[List.getElem?_range hj1]at hj
   cases hj
   obtain⟨e,_,k2⟩:=CD (i:=j) hL (List.getElem?_eq_getElem (by omega))
   obtain⟨gh,k3⟩:=Sw k2
   have k4:bk j=some gh:=by rw[aJ]at k3;exact k3
   exact⟨gh,k4,k4⟩
 . simp only at hi
   have key:∀(l:List (AO S)) (v i ver:Nat) ao,look i (FV v l)=some (ver,ao)->ver=i/\v<=i/\l[i-v]?=some ao:=fun l=>by
    induction l with
    |nil=>intro v i ver ao h;cases h
    |cons y l ih=>
     intro v i ver ao h
     simp only[FV,bL]at h
     by_cases e:v=i
     . rw[if_pos e]at h;cases h;exact⟨e,by omega,by subst e;simp⟩
     . rw[if_neg e]at h
       obtain⟨h1,h2,h3⟩:=ih _ _ _ _ h
       refine⟨h1,by omega,?_⟩
       rw[show i-v=(i-(v+1))+1 by omega];simpa using h3
   obtain⟨rfl,_,k3⟩:=key _ _ _ _ _ hi
   simp only[Nat.sub_zero]at k3
   obtain⟨e,k4,_⟩:=CD hL k3
   exact⟨e,k4,by show(match eZ[ver]?,L[ver]? with|some a,some e=>some (a,e)|_,_=>none)=_;rw[k3,k4]⟩
def qQ:List ResultVar->List Operand
 |[]=>[]
 |.tmp t::l=>.tmp t::qQ l
 |.cell t _::l=>.tmp t::qQ l
section
variable {n:Nat}{ds:Cx}{B:List Nat}{m0:Mem}{rb:Nat->Option Gh}{σ:AS S}{a:Act}{L:List bM}
theorem tv(hT:c9 P K tt)(hI:Inv K n ds B m0 rb σ g a m L){Kt:Kt}:∀{rs:List ResultVar} {vs:List (AV S)},(∀t,Operand.tmp t∈qQ rs->lk Kt t=some (a.eval (.tmp t)))->mH tt σ rs=some vs->∃us,yG P Kt m.w rs us/\cF K g m vs us
 |[],vs,_,h=>by simp only[mH,af]at h;subst h;exact⟨[],.nil,by simp only[cF]⟩
 |.tmp t::rs,vs,hk,h=>by
  simp only[mH]at h;obtain⟨⟨bN,v⟩,hv,h1⟩:=aa.1 h;obtain⟨r,hr,rfl⟩:=ab.1 h1;obtain⟨us,k1,k2⟩:=tv hT hI (fun t ht=>hk t (by simp[qQ,ht])) hr;exact⟨_,.tmp (hk t (by simp[qQ])) k1,by simp only[cF];exact⟨_,_,rfl,(hI.slot hv).2,k2⟩⟩
 |.cell t ty::rs,vs,hk,h=>by
  simp only[mH]at h;obtain⟨⟨bN,v⟩,hv,h1⟩:=aa.1 h;simp only at h1;split at h1
  . rename_i o;obtain⟨⟨ver,ao⟩,hao,h2⟩:=aa.1 h1;simp only at h2;split at h2
    . rename_i T cs;obtain⟨i,hi,h3⟩:=aa.1 h2;obtain⟨w,hw,h4⟩:=aa.1 h3;obtain⟨r,hr,rfl⟩:=ab.1 h4;obtain⟨us,k1,k2⟩:=tv hT hI (fun t ht=>hk t (by simp[qQ,ht])) hr;have hv2:=(hI.slot hv).2;simp only[bI,bH,bg,and_true]at hv2;obtain⟨gh,b,g1,g2,g3⟩:=hv2;obtain⟨z,hz1,hz2,hz3⟩:=mE hI.ob;rw[<- hz1,lh]at hao;obtain⟨p,hp1,hp2⟩:=ab.1 hao;obtain⟨hp3,hp4⟩:=eX hp1;have hob:=(hz3 p hp3).2;rw[hp2,hp4]at hob;obtain⟨gh',b',ws,j1,j2,j3,j4⟩:=hob;rw[g1]at j1;cases j1;rw[g2]at j2;cases j2;have hmem:p.2∈L:=by rw[<- hz2];exact List.mem_map_of_mem hp3
      rw[j3]at hmem;have hok:=hI.st.ow.left.ok _ hmem;have hcell:∀k u,ws[k]?=some u->m.w.cell? ⟨b,k,none⟩=some u:=fun k u hu=>by
       rw[cell_of_row _ _ _ _ _ _ hok];simpa using hu
      have hag:=(hT.ty ty i hi).agg;have hkp:=hk t (by simp[qQ]);rw[g3]at hkp;split at hw
      . rename_i hA;obtain⟨l,hl,rfl⟩:=ab.1 hw;obtain⟨q1,q2⟩:=ql hl j4;refine⟨.agg (ws.take i.size).toArray::us,.agg (o:=0) (by rw[hag,hA,aH,Nat.min_eq_left q2]) hkp (fun k u hu=>?_) k1,?_⟩
        . rw[aJ];refine hcell k u ?_;rw[List.getElem?_take]at hu;split at hu
          . exact hu
          . cases hu
        . simp only[cF,bI];exact⟨_,_,rfl,⟨_,rfl,q1⟩,k2⟩
      . rename_i hA;obtain⟨u,hu,rfl⟩:=ab.1 hw;obtain⟨x,q1,q2⟩:=ua hu j4;refine⟨x::us,.one (by rw[hag,hA]) hkp (hcell 0 x q1) k1,?_⟩;simp only[cF,bI];exact⟨_,_,rfl,q2,k2⟩
    . cases h2
  . cases h1
theorem Ml{vs:List (AV S)}{us:List Value}(h:cF K g m vs us):bI K g m (Ah vs) (xo us):=by
 match vs,h with
 |[],h=>simp only[cF]at h;subst h;simp only[Ah,xo,bI];exact⟨[],rfl,by simp only[cF]⟩
 |[v],h=>
  simp only[cF]at h
  obtain⟨x,r,rfl,h1,rfl⟩:=h
  exact h1
 |v::w::vs,h=>
  have h':=h
  simp only[cF]at h
  obtain⟨x,r,rfl,h1,y,r',rfl,h2⟩:=h
  simp only[Ah,xo,bI]
  exact⟨_,rfl,h'⟩
theorem jy{ob:List (Nat×Nat×AO S)}:∀{l:List KS} {mp mp':List (Nat×Nat)} {o:Nat} {ds:List (fC S)},OS.fA tb ob mp o l=some (ds,mp')->Sub mp mp'/\(gJ mp->gJ mp')
 |[],mp,mp',o,ds,h=>by
  simp only[OS.fA,af,aA]at h;obtain⟨_,rfl⟩:=h;exact⟨Sub.refl _,id⟩
 |.now s::l,mp,mp',o,ds,h=>by
  simp only[OS.fA]at h;obtain⟨q,hq,h⟩:=aa.1 h;obtain⟨a,ha,h⟩:=aa.1 h;obtain⟨p,hp,h⟩:=aa.1 h;obtain⟨r,hr,h⟩:=ab.1 h;obtain⟨rd,rm⟩:=r;simp only[aA]at h;obtain⟨_,rfl⟩:=h;obtain⟨a1,a2⟩:=OS.iB hp;obtain⟨b1,b2⟩:=jy hr;exact⟨a1.trans b1,fun hM=>b2 (a2 hM)⟩
 |.kept::l,mp,mp',o,ds,h=>jy (l:=l) (by simpa only[OS.fA]using h)
 |.gone::l,mp,mp',o,ds,h=>jy (l:=l) (by simpa only[OS.fA]using h)
theorem mG{ob:List (Nat×Nat×AO S)}:∀{l:List KS} {mp mp' mp1:List (Nat×Nat)} {o:Nat} {ds:List (fC S)} {Ln:List bM},OS.fA tb ob mp o l=some (ds,mp')->Sub mp' mp1->dS K g m (pick ob (iW mp1 o l)) Ln->
 ∀(g':GG S) (ids:Nat->Nat) (r:List (Nat×AO S)),Ren mp1 g g' ids->OS.outs tb ids o l ds=some r->yz K g' m r Ln
 |[],mp,mp',mp1,o,ds,Ln,h,hS,hL,g',ids,r,hR,hf=>by
  simp only[OS.fA,af,aA]at h;obtain⟨rfl,_⟩:=h;simp only[OS.outs,af]at hf;subst hf;exact hL
 |.kept::l,mp,mp',mp1,o,ds,Ln,h,hS,hL,g',ids,r,hR,hf=>
  mG (l:=l) (by simpa only[OS.fA]using h) hS (by simpa only[iW]using hL) g' ids r hR (by simpa only[OS.outs]using hf)
 |.gone::l,mp,mp',mp1,o,ds,Ln,h,hS,hL,g',ids,r,hR,hf=>
  mG (l:=l) (by simpa only[OS.fA]using h) hS (by simpa only[iW]using hL) g' ids r hR (by simpa only[OS.outs]using hf)
 |.now s::l,mp,mp',mp1,o,ds,Ln,h,hS,hL,g',ids,r,hR,hf=>by
  simp only[OS.fA]at h;obtain⟨q,hq,h⟩:=aa.1 h;obtain⟨a,ha,h⟩:=aa.1 h;obtain⟨p,hp,h⟩:=aa.1 h;obtain⟨r1,hr,h⟩:=ab.1 h;obtain⟨pd,pm⟩:=p;obtain⟨rd,rm⟩:=r1;simp only[aA]at h;obtain⟨rfl,rfl⟩:=h;have a1:=(OS.iB hp).1;have b1:=(jy hr).1;have hq1:look o mp1=some q:=hS _ _ (b1 _ _ (a1 _ _ hq));simp only[iW,hq1,pick,ha,dS]at hL;obtain⟨e,L',rfl,h1,h2,h3⟩:=hL;obtain⟨_,_,a3⟩:=OS.jA hp h2;simp only[OS.outs]at hf;obtain⟨p1,hp1,hf1⟩:=aa.1 hf;obtain⟨q1,hq1',hf2⟩:=ab.1 hf1;obtain⟨w1,r1⟩:=p1;clear hf hf1;obtain⟨rfl,k2⟩:=a3 g' ids (ids o) _ _ _ (hR.sub (b1.trans hS)) (fun gh hgh=>hR _ _ _ hq1 hgh) hp1;subst hf2;exact⟨e,L',rfl,k2,mG hr hS h3 g' ids _ hR hq1'⟩
end
theorem Cb:∀l:List KS,lQ l []=[]
 |[]=>rfl
 |.kept::_=>rfl
 |.now _::_=>rfl
 |.gone::_=>rfl
theorem zI{l:List KS}{L:List bM}{o:Nat}{s:KS}(hs:s.X6=false):lQ (s::l) (L.drop o)=lQ l (L.drop (o+1)):=by
 by_cases h:o<L.length
 . rw[List.drop_eq_getElem_cons h];cases s<;>first|(cases hs;done)|rfl
 . rw[List.drop_of_length_le (by omega),List.drop_of_length_le (by omega),Cb,Cb]
theorem uB{z:ZL S}{L:List bM}:∀{l:List KS} {o:Nat},(∀i∈gD o l,∃p,mD z i=some p/\L[i]?=some p.2)->lQ l (L.drop o)=(du z (gD o l)).map Prod.snd
 |[],o,_=>by simp[lQ,gD,du]
 |.kept::l,o,h=>by
  obtain⟨p,h1,h2⟩:=h o (by simp[gD]);have ih:=uB (l:=l) (o:=o+1) fun i hi=>h i (by simp[gD,hi])
  have hlt:o<L.length:=(List.getElem?_eq_some_iff.1 h2).1;have he:L[o]=p.2:=by rw[List.getElem?_eq_getElem hlt]at h2;exact au h2
  rw[List.drop_eq_getElem_cons hlt,he];simp only[lQ,gD,du,List.filterMap_cons,h1,aF];rw[ih];rfl
 |.now s::l,o,h=>by
  rw[zI rfl];exact uB (l:=l) (o:=o+1) h
 |.gone::l,o,h=>by
  rw[zI rfl];exact uB (l:=l) (o:=o+1) h
theorem o8{σ0 σ:AS S}:∀{l:List KS} {o:Nat},zL σ0 σ o l=true->∀i∈gD o l,∃ver a0 a1,look i σ0.ob=some (ver,a0)/\look i σ.ob=some (ver,a1)
 |[],o,_,i,hi=>by cases hi
 |.kept::l,o,h,i,hi=>by
  simp only[zL,al]at h;simp only[gD,aB]at hi;rcases hi with rfl|hi
  . have h1:=h.1.2;split at h1
    . rename_i x y hx hy;obtain⟨x1,x2⟩:=x;obtain⟨y1,y2⟩:=y;have:=ah h1;simp only at this;subst this;exact⟨x1,x2,y2,hx,hy⟩
    . cases h1
  . exact o8 h.2 i hi
 |.now _::l,o,h,i,hi=>o8 (l:=l) (o:=o+1) h i hi
 |.gone::l,o,h,i,hi=>o8 (l:=l) (o:=o+1) h i hi
theorem AA:∀{l:List Nat} {j i q:Nat},j<=i->l[i-j]?=some q->look i (Km j l)=some q
 |[],j,i,q,_,h=>by simp at h
 |x::l,j,i,q,hj,h=>by
  simp only[Km,bL];by_cases e:j=i
  . subst e;rw[if_pos rfl];simpa using h
  . rw[if_neg e];refine AA (by omega) ?_;rw[show i-j=(i-(j+1))+1 by omega]at h;simpa using h
theorem ey{n:Nat}{ds:Cx}{m0:Mem}{σ:AS S}{a:Act}{c:gj S}{y:kH S c.outs}{σ0:AS S}{g0:GG S}{bk:Nat->Option Gh}{L L1:List bM}{v:AV S}{u:Value}(hX:ds.X=[])(hI:Inv K n ds (bF L) m0 bk σ g a m L1)(hge:GE g0 g)(hob0:∀(i ver:Nat) ao,look i σ0.ob=some (ver,ao)->∃e,L[i]?=some e/\g0.oo ver=some (ao,e))
 (r3:bI K g m v u) (hfin:bT tb c.eZ.length v σ0 σ c.outs=some y):∃L2,St (bF L) m0 m L2/\bP K c bk L y u m L2:=by
 have key:∃L2,yJ c.outs y fun o z=>St (bF L) m0 m L2/\I2 K c.eZ.length o bk L z u m L2:=wX (ux hfin) fun o z ho h1=>by
  unfold finish at h1;obtain⟨⟨pd,mp1⟩,hp,h2⟩:=aa.1 h1;obtain⟨⟨qd,mp2⟩,hq,h3⟩:=aa.1 h2;simp only at h3 hq;split at h3
  case h_2=>cases h3
  case h_1 hc=>
  obtain⟨dd,hdd,hof⟩:=aa.1 h3;simp only[al]at hc;obtain⟨c1,⟨c2,c3⟩,c4⟩:=hc;have c3:=ah c3;obtain⟨s1,s2,s3⟩:=PS.jA hp r3;obtain⟨t1,t2⟩:=jy hq;obtain⟨z1,hz1,hz2,hz3⟩:=mE hI.ob;obtain⟨Y,hY⟩:=jS (z:=z1) (gg c2);have hkeep:lQ o.e8 L=(du z1 (gD 0 o.e8)).map Prod.snd:=by
   have:=uB (z:=z1) (L:=L) (l:=o.e8) (o:=0) fun i hi=>by
    obtain⟨ver,a0,a1,k1,k2⟩:=o8 c1 i hi;obtain⟨e,k3,k4⟩:=hob0 i ver a0 k1;rw[<- hz1,lh]at k2;obtain⟨p,hp1,hp2⟩:=ab.1 k2;refine⟨p,hp1,?_⟩;have e1:=(hz3 p (eX hp1).1).1;rw[hp2]at e1;simp only at e1;rw[hge.oo _ _ k4]at e1;have:=au e1;rw[k3,(Prod.mk.inj this).2]
   simpa using this
  have hLn':dS K g m (pick σ.ob (iW mp2 0 o.e8)) ((du z1 (iW mp2 0 o.e8)).map Prod.snd):=by
   rw[<- hz1,<- jR];exact kZ fun p hp=>by
    obtain⟨q,_,hq⟩:=List.mem_filterMap.1 hp;exact hz3 p (eX hq).1
  have hSt:St (bF L) m0 m (lQ o.e8 L++(du z1 (iW mp2 0 o.e8)).map Prod.snd):=by
   have h1:List.Perm L1 ((lQ o.e8 L++(du z1 (iW mp2 0 o.e8)).map Prod.snd)++Y.map Prod.snd):=by
    rw[<- hz2,hkeep,<- bA,<- bA];refine List.Perm.map _ ?_;have:du z1 (gD 0 o.e8)++du z1 (iW mp2 0 o.e8)=du z1 (gD 0 o.e8++iW mp2 0 o.e8):=by
     simp only[du,List.filterMap_append]
    rw[this];exact hY
   have h0:=hI.st;rw[hX,aU]at h0;exact(h0.perm h1).ma
  have hkey:∀i q,look i mp2=some q->i<o.e8.length:=fun i q ho=>
   aj (aE.1 c4 _ (eT ho))
  refine⟨_,hSt,fun i=>if i<o.e8.length then(look i mp2).bind g.bk else none,(du z1 (iW mp2 0 o.e8)).map Prod.snd,rfl,fun i hi=>?_,fun i hi=>if_neg (by omega),fun gx ids ds out ds1 l hR hds hout houts=>?_⟩
  . obtain⟨q,hq'⟩:∃q,σ.rt[i]?=some q:=⟨_,List.getElem?_eq_getElem (by omega)⟩;have hl:look i mp2=some q:=t1 _ _ (s1 _ _ (AA (Nat.zero_le _) (by simpa using hq')));obtain⟨h,k1,k2⟩:=hI.rt.2 i q hq';show(if _ then _ else _)=_;rw[if_pos (hkey _ _ hl),hl,k1];exact k2
  . have hRen:Ren mp2 g gx ids:=fun i q h ho hbk'=>hR i h (by
     show(if _ then _ else _)=_;rw[if_pos (hkey _ _ ho),ho];exact hbk')
    rw[zm hof]at hds;have:=rP o.Yg hdd hds;subst this;obtain⟨rfl,j2⟩:=s3 _ _ _ _ _ (hRen.sub t1) hout;exact⟨j2,mG hq (Sub.refl _) hLn' gx ids l hRen houts⟩
 obtain⟨L2,h⟩:=key
 obtain⟨o,z,_,h1,_⟩:=CI h
 exact⟨L2,h1.1,BQ h fun o z _ hp=>hp.2⟩
theorem LQ(hT:c9 P K tt)(hΦ:∀c∈Φ,Sound P K c)(hΨ:∀c∈fa.nd,n5 P K c)(hD:∀n B m0 rb ds,GW P K tt Φ fa n B m0 rb none ds){c:gj S}{fn:Func}{body:Code}{rs:List ResultVar}{an:An}(hf:P.funcs[c.f]?=some fn)(hb:fn.body=some body)(hrs:fn.results=rs.toArray)(hen:Enters P c.f)(hcf:c.f<=999999)
 (hok:codeOk fn.ntmps body=true) (hrg:Ua K fa.fn fn.ntmps body) (hsz:(Nat.ble c.ins.length 190&&Nat.ble c.ins.length fn.ntmps)=true) (hev:∀x,Wx tb tt Φ fa c rs body an x=c.D0 x):Sound P K c:=by
 simp only[al]at hsz
 have hsz1:=aj hsz.1
 have hsz2:=aj hsz.2
 refine⟨fun x y bk m vals L hsem hbk GP hLn hO hB=>?_⟩
 unfold pT
 rw[if_pos hcf]
 refine⟨hen,?_⟩
 show Spec P c.f vals.toArray m L (bP K c bk L y)
 rw[<- hev x]at hsem
 unfold Wx at hsem
 split at hsem
 case h_2=>cases hsem
 case h_1 σ0 hst=>
 have hvl:vals.length=c.ins.length:=by
  have h:=hst;unfold start at h;obtain⟨ds,hds,h⟩:=aa.1 h;obtain⟨⟨args,ds1⟩,hp,h⟩:=aa.1 h;obtain⟨⟨eZ,ds2⟩,hq,h⟩:=aa.1 h;rw[yQ (GP ds args ds1 eZ ds2 hds hp hq).1,vK hp]
 refine enter fn.ntmps hf hb rfl (by omega) fun a hK=>?_
 obtain⟨g0,hI0,hob0⟩:=AY hst hbk GP hO hB hsz1 hK
 have hI1:Inv K fn.ntmps ⟨MN [],[.defs []]⟩ (bF L) m bk σ0 g0 a m L:=hI0.V9 rfl hK.defers (by
  have:=hI0.st;rw[aU]at this;exact this.Wr.perm (aI (l₁:=[bM.defs []]) (l₂:=L)))
 refine oH (rr:=none) hT hΦ hΨ (fun _=>rfl) (hD _ _ _ _) body hok hrg an σ0 (kH S c.outs) _ (kH S c.outs) id y g0 a m L _ ⟨MN [],[.defs []]⟩ ⟨[],rfl⟩ ?_ hsem hI1 fun ex σ' g' a' m' L' ds' hds' hk hge hle hI=>?_
 . intro δ δ' ψ hψ e ex σ'
   cases ex with
   |exit k=>rfl
   |normal=>exact dA fun σp=>dA fun vs=>dA fun z=>rfl
   |ret=>exact dA fun σp=>dA fun vs=>dA fun z=>rfl
 . obtain⟨Ds,rfl⟩:=hds'
   have fin:∀σp vs,F9 fa.pre σ'=some σp->mH tt σp rs=some vs->bT tb c.eZ.length (Ah vs) σ0 σp c.outs=some y->zA P fn m L (bP K c bk L y) .ret a' m'.w:=fun σp vs hpre hvs hfin=>by
    have hKn:Kn fn.ntmps a' (Ol a' (qQ rs)) (MN Ds):=⟨hI.size,hI.defers,cw a' _⟩;refine Mo L'.length hKn hI.st (by simp) fun m1 hle1 hS1 a2 hK2=>?_
    have he:(L'++[bM.defs Ds]).eraseIdx L'.length=L':=by
     rw[List.eraseIdx_append_of_length_le (Nat.le_refl _)];simp
    rw[he]at hS1;have hI2:Inv K fn.ntmps ⟨a'.defers,[]⟩ (bF L) m bk σ' g' a' m1 L':=⟨hI.size,rfl,hI.at_,fun s bN v h=>(let⟨u,k1,k2⟩:=hI.tm s bN v h;⟨u,k1,k2.mono (GE.refl _) hle1⟩),hI.ob.mono (GE.refl _) hle1,by rw[aU];exact hS1,hI.fresh,hI.rt⟩;obtain⟨gp,mp,Lp,hw,_,hgp,hIp⟩:=yn hI2 hpre;rw[<- hw];obtain⟨us,r1,r2⟩:=tv (Kt:=Ol a' (qQ rs)) hT hIp (fun t ht=>vW a' (qQ rs) t ht) hvs;obtain⟨L2,hSt,hP⟩:=ey rfl hIp (hge.trans hgp) hob0 (Ml r2) hfin;exact VF (K:=Ol a' (qQ rs)) rs us hrs hK2 r1 hSt hP
   cases ex with
   |exit k=>cases hk
   |ret=>
    obtain⟨σp,h0,hk⟩:=aa.1 hk
    obtain⟨vs,h1,h2⟩:=aa.1 hk
    obtain⟨w,h3,h4⟩:=aa.1 h2
    have:=au h4
    simp only[id]at this
    subst this
    exact fin σp vs h0 h1 h3
   |normal=>
    obtain⟨σp,h0,hk⟩:=aa.1 hk
    obtain⟨vs,h1,h2⟩:=aa.1 hk
    obtain⟨w,h3,h4⟩:=aa.1 h2
    have:=au h4
    simp only[id]at this
    subst this
    exact fin σp vs h0 h1 h3
end E
end
end Go.Proofs.YtjfkdglgecgjfaaGreat
