/- Part of the proof. -/
import Derived.Test.YtjfkdglgecgjfaaGreatZEvK
namespace Go.Proofs.YtjfkdglgecgjfaaGreat
section
open Go.RowKit G
namespace E
variable {S:Nat->Type}{tb:Tb S}{K:ep tb}{P:Program}{tt:TypeId->Option (TI S)}{Φ:List (dS S)}{fa:FA S}
def QZ{γ γ':Type}(φ:γ->γ'):Prop:=∀x y,φ x=φ y->x=y
theorem BQ{α β:Type}:QZ (Sum.inr:β->α⊕β):=fun _ _ h=>Sum.inr.inj h
theorem N6{α β γ:Type}{φ:β->γ}(h:QZ φ):QZ (Sum.map (id:α->α) φ):=fun x y e=>by
 cases x<;>cases y<;>simp_all;exact h _ _ e
theorem PC{γ γ':Type}{φ:γ->γ'}(hφ:QZ φ){a b:Option γ}{a' b':Option γ'}(ha:a'=a.map φ)(hb:b'=b.map φ):agree a' b'=(agree a b).map φ:=by
 subst ha;subst hb;unfold agree;by_cases h:a=b
 . subst h;rw[if_pos rfl,if_pos rfl]
 . rw[if_neg h,if_neg fun e=>h (by
    cases a<;>cases b<;>simp_all;exact h (hφ _ _ e))];rfl
theorem KV{γ:Type}{a b:Option γ}{z:γ}(h:agree a b=some z):a=some z/\b=some z:=by
 unfold agree at h;split at h
 . rename_i e;subst e;exact⟨h,h⟩
 . cases h
def NK{β:Type}(κ:Kp S β):Prop:=∀(γ γ':Type) (φ:γ->γ') (_:QZ φ) (e:β->γ) (ex:QY) (σ:AS S),κ γ' (fun b=>φ (e b)) ex σ=(κ γ e ex σ).map φ
structure NW(f:W S):Prop where
 n1:∀(an:An) (σ:AS S) (β1 β2:Type) (κ1:Kp S β1) (κ2:Kp S β2) (q:β1->β2) (γ:Type) (e:β2->γ),(∀(δ:Type) (e:β2->δ) ex σ,κ2 δ e ex σ=κ1 δ (fun b=>e (q b)) ex σ)->f an σ β2 κ2 γ e=f an σ β1 κ1 γ (fun b=>e (q b))
 n3:∀(an:An) (σ:AS S) (β:Type) (κ:Kp S β) (γ γ':Type) (φ:γ->γ') (_:QZ φ) (e:β->γ),NK κ->f an σ β κ γ' (fun b=>φ (e b))=(f an σ β κ γ e).map φ
theorem Ro{σ A B:Type}{f:σ->Option (σ⊕A)}{f':σ->Option (σ⊕B)}{φ:A->B}(h:∀s,f' s=(f s).map (Sum.map id φ))(s:σ):Iter f' s=(Iter f s).map φ:=by
 have key:∀(k:Nat) (s:σ) (r:B),nP f' k s r↔∃r0,nP f k s r0/\φ r0=r:=fun k=>by
  induction k with
  |zero=>intro s r;exact⟨fun h=>h.elim,fun⟨_,h,_⟩=>h.elim⟩
  |succ k ih=>
   intro s r
   constructor
   . rintro⟨x,hx,hr⟩
     rw[h]at hx
     obtain⟨y,hy,rfl⟩:=ab.1 hx
     cases y with
     |inl s'=>obtain⟨r0,h1,h2⟩:=(ih s' r).1 hr;exact⟨r0,⟨_,hy,h1⟩,h2⟩
     |inr a=>exact⟨a,⟨_,hy,rfl⟩,hr⟩
   . rintro⟨r0,⟨x,hx,hr⟩,rfl⟩
     refine⟨Sum.map id φ x,by rw[h,hx];rfl,?_⟩
     cases x with
     |inl s'=>exact(ih s' _).2 ⟨r0,hr,rfl⟩
     |inr a=>show φ a=φ r0;rw[show a=r0 from hr]
 refine Option.ext fun r=>?_
 rw[jY,ab];constructor
 . rintro⟨k,hk⟩;obtain⟨r0,h1,h2⟩:=(key k s r).1 hk;exact⟨r0,jY.2 ⟨k,h1⟩,h2⟩
 . rintro⟨r0,h1,h2⟩;obtain⟨k,hk⟩:=jY.1 h1;exact⟨k,(key k s r).2 ⟨r0,hk,h2⟩⟩
theorem dn{α β γ:Type}{x:Option α}{f:α->Option β}{φ:β->γ}{f':α->Option γ}(h:∀a,f' a=(f a).map φ):x.bind f'=(x.bind f).map φ:=by cases x;rfl;exact h _
theorem Qm{α β γ δ:Type}{x:Option α}{q:α->β}{f:β->Option δ}{f':α->Option γ}{φ:γ->δ}(h:∀a,f (q a)=(f' a).map φ):(x.map q).bind f=(x.bind f').map φ:=by cases x;rfl;exact h _
theorem abg{J:JA}{σ:AS S}:NK (kN tb J σ):=fun δ δ' ψ hψ e ex σ'=>by
 cases ex with
 |normal=>exact dn fun z=>rfl
 |ret=>rfl
 |exit n=>rfl
theorem Oa{J:JA}{σ:AS S}{β γ:Type}{κ:Kp S β}{emb:β->γ}(hκ:NK κ):NK (kJ tb J σ κ emb):=fun δ δ' ψ hψ e ex σ'=>by
 cases ex with
 |normal=>exact dn fun z=>rfl
 |ret=>exact hκ _ _ _ hψ _ _ _
 |exit n=>exact hκ _ _ _ hψ _ _ _
theorem XR{β:Type}{id:Nat}{κ:Kp S β}(hκ:NK κ):NK (kB id κ):=fun δ δ' ψ hψ e ex σ'=>by
 cases ex with
 |normal=>exact hκ _ _ _ hψ _ _ _
 |ret=>exact hκ _ _ _ hψ _ _ _
 |exit n=>simp only[kB];split<;>exact hκ _ _ _ hψ _ _ _
theorem XV{β:Type}{f:W S}{an:An}{κ:Kp S β}(hf:NW f)(hκ:NK κ):NK (kS f an κ):=fun δ δ' ψ hψ e ex σ'=>by
 cases ex with
 |normal=>exact hf.n3 _ _ _ _ _ _ ψ hψ _ hκ
 |ret=>exact hκ _ _ _ hψ _ _ _
 |exit n=>exact hκ _ _ _ hψ _ _ _
theorem XT{J:JA}{σ:AS S}{β1 β2 γ:Type}{κ1:Kp S β1}{κ2:Kp S β2}{q:β1->β2}{e:β2->γ}(h:∀(δ:Type) (e:β2->δ) ex σ,κ2 δ e ex σ=κ1 δ (fun b=>e (q b)) ex σ):kJ tb J σ κ2 e=kJ tb J σ κ1 (fun b=>e (q b)):=by
 funext γ' e' ex σ';cases ex<;>first|rfl|exact h _ _ _ _
theorem SP{f:W S}(hf:NW f){J:JA}{a:An}{σ σ0:AS S}{β γ γ':Type}{κ:Kp S β}{φ:γ->γ'}{e:β->γ}(hφ:QZ φ)(hκ:NK κ):
 f a σ (HT S J.ls⊕γ') (kJ tb J σ0 κ fun b=>φ (e b)) (HT S J.ls⊕γ') id=(f a σ (HT S J.ls⊕γ) (kJ tb J σ0 κ e) (HT S J.ls⊕γ) id).map (Sum.map id φ):=
 (hf.n1 a σ (HT S J.ls⊕γ) (HT S J.ls⊕γ') (kJ tb J σ0 κ e) (kJ tb J σ0 κ fun b=>φ (e b)) (Sum.map id φ) (HT S J.ls⊕γ') id fun δ e' ex σ'=>by cases ex<;>rfl).trans
  (hf.n3 a σ (HT S J.ls⊕γ) (kJ tb J σ0 κ e) (HT S J.ls⊕γ) (HT S J.ls⊕γ') (Sum.map id φ) (N6 hφ) id (Oa hκ))
theorem Z3{c:Code}{f:W S}(hf:NW f):NW (Z2 tb c f):=by
 refine⟨fun an σ β1 β2 κ1 κ2 q γ e h=>?_,fun an σ β κ γ γ' φ hφ e hκ=>?_⟩
 . unfold Z2;split
   . rename_i J a;split
     . refine bind_eq fun z=>?_
       split
       . exact h _ _ _ _
       . rfl
     . rw[XT h];refine bind_eq fun z=>?_
       cases z with
       |inl u=>
        simp only[tw]
        split
        . exact h _ _ _ _
        . rfl
       |inr b=>rfl
   . exact hf.n1 _ _ _ _ _ _ _ _ _ h
 . unfold Z2;split
   . rename_i J a;split
     . refine dn fun z=>?_
       split
       . exact hκ _ _ _ hφ _ _ _
       . rfl
     . have e1:=SP (tb:=tb) hf (J:=J.at_ c σ.fb) (a:=a) (σ:=σ) (σ0:=σ) (φ:=φ) (e:=e) hφ hκ;refine(congrArg (fun x=>Option.bind x _) e1).trans (Qm fun z=>?_)
       cases z with
       |inl u=>
        show(match unpack tb (J.at_ c σ.fb) σ u with|some σ1=>κ γ' (fun b=>φ (e b)) .normal σ1|none=>none)=Option.map φ (match unpack tb (J.at_ c σ.fb) σ u with|some σ1=>κ γ e .normal σ1|none=>none)
        cases unpack tb (J.at_ c σ.fb) σ u with
        |some σ1=>exact hκ _ _ _ hφ _ _ _
        |none=>rfl
       |inr b=>rfl
   . exact hf.n3 _ _ _ _ _ _ _ hφ _ hκ
theorem ud{c:Code}{f:W S}(hf:NW f):NW (wj tb c f):=by
 have h0:=Z3 (tb:=tb) (c:=c) hf;refine⟨fun an σ β1 β2 κ1 κ2 q γ e h=>?_,fun an σ β κ γ γ' φ hφ e hκ=>?_⟩
 . unfold wj;split
   . split
     . exact h0.n1 _ _ _ _ _ _ _ _ _ h
     . rfl
   . exact h0.n1 _ _ _ _ _ _ _ _ _ h
 . unfold wj;split
   . split
     . exact h0.n3 _ _ _ _ _ _ _ hφ _ hκ
     . rfl
   . exact h0.n3 _ _ _ _ _ _ _ hφ _ hκ
theorem LO{γ γ':Type}{φ:γ->γ'}{ops:Array Oper}{gd:Option (Nat×Bool)}{σ:AS S}{go:Bool->AS S->Option γ}{go':Bool->AS S->Option γ'}(h:∀b σ,go' b σ=(go b σ).map φ):tp ops gd σ go'=(tp ops gd σ go).map φ:=by
 unfold tp;split
 . exact h _ _
 . split
   . split
     . exact h _ _
     . split<;>exact h _ _
     . rfl
   . exact h _ _
   . rfl
theorem rO{γ γ':Type}{φ:γ->γ'}(hφ:QZ φ){f:FuncId}{args:List (AV S)}{ob:List (Nat×Nat×AO S)}{ct:Nat}{k:ia S->Option γ}{k':ia S->Option γ'}(h:∀r,k' r=(k r).map φ):∀{Ψ:List (NC S)},(∀c∈Ψ,c.Nat)->mb tb f args ob ct k' Ψ=(mb tb f args ob ct k Ψ).map φ
 |[],_=>rfl
 |c::cs,hN=>by
  simp only[mb];split
  . exact rO hφ h fun c hc=>hN c (au _ hc)
  . split
    . exact rO hφ h fun c hc=>hN c (au _ hc)
    . refine dn fun _=>hN c aq _ _ φ hφ _ _ (fun y=>?_) _
      split
      . exact h _
      . rfl
theorem Qp{γ:Type}{f:FuncId}{args:List (AV S)}{ob:List (Nat×Nat×AO S)}{ct:Nat}{k k':ia S->Option γ}(h:∀r,k' r=k r){Ψ:List (NC S)}:mb tb f args ob ct k' Ψ=mb tb f args ob ct k Ψ:=by
 rw[show k'=k from funext h]
theorem uz{γ γ':Type}{φ:γ->γ'}(hφ:QZ φ)(hN:∀c∈fa.nd,c.Nat){sq:Bool}{ops:Array Oper}:∀{rest:List Oper} {i:Nat} {σ:AS S} {lg:Log} {k:AS S->Log->Option γ} {k':AS S->Log->Option γ'},(∀σ lg,k' σ lg=(k σ lg).map φ)->pf tb tt Φ fa sq ops rest i σ lg k'=(pf tb tt Φ fa sq ops rest i σ lg k).map φ
 |[],i,σ,lg,k,k',h=>h _ _
 |o::rest,i,σ,lg,k,k',h=>by
  simp only[pf];refine LO fun b σ1=>?_
  cases b with
  |false=>exact uz hφ hN h
  |true=>
   simp only
   split
   . split
     . rw[xd (k:=fun r=>_),xd (γ:=γ) (k:=fun r=>_)]
       refine dn fun r=>?_
       split
       . exact uz hφ hN h
       . rfl
     . exact rO hφ (fun r=>uz hφ hN h) hN
   . rfl
theorem A3{q:Nat}{σ:AS S}{β1 β2:Type}{κ1:Kp S β1}{κ2:Kp S β2}{f:β1->β2}{γ:Type}{e:β2->γ}(h:∀(δ:Type) (e:β2->δ) ex σ,κ2 δ e ex σ=κ1 δ (fun b=>e (f b)) ex σ):kb q σ κ2 e=kb q σ κ1 (fun b=>e (f b)):=by
 unfold kb;split
 . split<;>first|exact h _ _ _ _|rfl
 . rfl
theorem ye{q:Nat}{σ:AS S}{β:Type}{κ:Kp S β}{γ γ':Type}{φ:γ->γ'}{e:β->γ}(hφ:QZ φ)(hκ:NK κ):kb q σ κ (fun b=>φ (e b))=(kb q σ κ e).map φ:=by
 unfold kb;split
 . split<;>first|exact hκ _ _ _ hφ _ _ _|rfl
 . rfl
theorem XU{J:JA}{σ:AS S}{β γ:Type}{κ:Kp S β}{emb:β->γ}{q ver:Nat}(hκ:NK κ):NK (kM tb q ver J σ κ emb):=fun δ δ' ψ hψ e ex σ'=>by
 cases ex with
 |normal=>
  simp only[kM]
  split
  . split
    . exact dn fun z=>rfl
    . rfl
  . rfl
 |ret=>exact hκ _ _ _ hψ _ _ _
 |exit n=>exact hκ _ _ _ hψ _ _ _
theorem abe{J:JA}{σ:AS S}{β1 β2 γ:Type}{κ1:Kp S β1}{κ2:Kp S β2}{q:β1->β2}{e:β2->γ}{r ver:Nat}(h:∀(δ:Type) (e:β2->δ) ex σ,κ2 δ e ex σ=κ1 δ (fun b=>e (q b)) ex σ):kM tb r ver J σ κ2 e=kM tb r ver J σ κ1 (fun b=>e (q b)):=by
 funext γ' e' ex σ';cases ex<;>first|rfl|exact h _ _ _ _
theorem Zh{f:W S}(hf:NW f){J:JA}{a:An}{σ σ0:AS S}{β γ γ':Type}{κ:Kp S β}{φ:γ->γ'}{e:β->γ}{r ver:Nat}(hφ:QZ φ)(hκ:NK κ):
 f a σ (HT S J.ls⊕γ') (kM tb r ver J σ0 κ fun b=>φ (e b)) (HT S J.ls⊕γ') id=(f a σ (HT S J.ls⊕γ) (kM tb r ver J σ0 κ e) (HT S J.ls⊕γ) id).map (Sum.map id φ):=
 (hf.n1 a σ (HT S J.ls⊕γ) (HT S J.ls⊕γ') (kM tb r ver J σ0 κ e) (kM tb r ver J σ0 κ fun b=>φ (e b)) (Sum.map id φ) (HT S J.ls⊕γ') id fun δ e' ex σ'=>by
  cases ex with
  |normal=>
   simp only[kM]
   split
   . split
     . rfl
     . rfl
   . rfl
  |ret=>rfl
  |exit n=>rfl).trans
  (hf.n3 a σ (HT S J.ls⊕γ) (kM tb r ver J σ0 κ e) (HT S J.ls⊕γ) (HT S J.ls⊕γ') (Sum.map id φ) (N6 hφ) id (XU hκ))
theorem Zm{J:JA}{σ:AS S}{r it nx c out:Nat}{f:AS S->(β:Type)->Kp S β->(γ:Type)->(β->γ)->Option γ}{β1 β2 γ:Type}{κ1:Kp S β1}{κ2:Kp S β2}{q:β1->β2}{e:β2->γ}(h:∀(δ:Type) (e:β2->δ) ex σ,κ2 δ e ex σ=κ1 δ (fun b=>e (q b)) ex σ):
 WD tb J r σ it nx c out f κ2 e=WD tb J r σ it nx c out f κ1 (fun b=>e (q b)):=by
 unfold WD
 simp only[abe h,h]
theorem WE{J:JA}{σ:AS S}{r it nx c out:Nat}{f:W S}{a:An}(hf:NW f){β γ γ':Type}{κ:Kp S β}{φ:γ->γ'}{e:β->γ}(hφ:QZ φ)(hκ:NK κ):
 WD tb J r σ it nx c out (fun σ2 β κ γ emb=>f a σ2 β κ γ emb) κ (fun b=>φ (e b))=(WD tb J r σ it nx c out (fun σ2 β κ γ emb=>f a σ2 β κ γ emb) κ e).map φ:=by
 unfold WD
 split
 . split
   . split
     . refine dn fun z0=>PD hφ fun p=>FI (fun x z=>?_) (fun z=>?_) p z0
       . split
         . split
           . exact Zh (tb:=tb) hf hφ hκ
           . rfl
         . rfl
       . split
         . split
           . exact hκ _ _ _ hφ _ _ _
           . rfl
         . rfl
     . rfl
   . rfl
 . rfl
theorem Wx{body:Code}(hx:NW (yG tb tt Φ fa body))(hy:∀s1 s2 rest,body=.seq s1 (.seq s2 rest)->NW (yG tb tt Φ fa rest)):NW (yG tb tt Φ fa (.loop body)):=by
 rw[yG];exact ud (by
  refine⟨fun an σ β1 β2 κ1 κ2 q γ e h=>?_,fun an σ β κ γ γ' φ hφ e hκ=>?_⟩
  . split
    . rename_i J a;rw[XT h]
    . split
      . split
        . split
          . exact Zm h
          . rfl
        . rfl
      . rfl
    . rfl
  . split
    . rename_i J a;refine dn fun z0=>Ro (fun z=>?_) z0
      split
      . exact SP (tb:=tb) hx (J:=J.at_ (.loop body) σ.fb) hφ hκ
      . rfl
    . split
      . rename_i rest;split
        . split
          . exact WE (hy _ _ rest rfl) hφ hκ
          . rfl
        . rfl
      . rfl
    . rfl)
theorem pW(hN:∀c∈fa.nd,c.Nat):∀c:Code,NW (yG tb tt Φ fa c)
 |.skip=>ud ⟨fun _ _ _ _ _ _ _ _ _ h=>h _ _ _ _,fun _ _ _ _ _ _ _ hφ _ h=>h _ _ _ hφ _ _ _⟩
 |.label _=>ud ⟨fun _ _ _ _ _ _ _ _ _ h=>h _ _ _ _,fun _ _ _ _ _ _ _ hφ _ h=>h _ _ _ hφ _ _ _⟩
 |.ret=>ud ⟨fun _ _ _ _ _ _ _ _ _ h=>h _ _ _ _,fun _ _ _ _ _ _ _ hφ _ h=>h _ _ _ hφ _ _ _⟩
 |.exit _=>ud ⟨fun _ _ _ _ _ _ _ _ _ h=>h _ _ _ _,fun _ _ _ _ _ _ _ hφ _ h=>h _ _ _ hφ _ _ _⟩
 |.seq x y=>ud (by
  have hx:=pW hN x;have hy:=pW hN y;refine⟨fun an σ β1 β2 κ1 κ2 q γ e h=>?_,fun an σ β κ γ γ' φ hφ e hκ=>?_⟩
  . exact hx.n1 _ _ _ _ _ _ q _ _ fun δ e' ex σ'=>by
     cases ex with
     |normal=>exact hy.n1 _ _ _ _ _ _ q _ _ h
     |ret=>exact h _ _ _ _
     |exit n=>exact h _ _ _ _
  . exact hx.n3 _ _ _ _ _ _ φ hφ _ (XV hy hκ))
 |.cond c x y=>ud (by
  have hx:=pW hN x;have hy:=pW hN y;refine⟨fun an σ β1 β2 κ1 κ2 q γ e h=>?_,fun an σ β κ γ γ' φ hφ e hκ=>?_⟩
  . split
    . split
      . split
        . exact hx.n1 _ _ _ _ _ _ q _ _ h
        . exact hy.n1 _ _ _ _ _ _ q _ _ h
        . split
          . exact hx.n1 _ _ _ _ _ _ q _ _ h
          . exact hy.n1 _ _ _ _ _ _ q _ _ h
        . exact congr (congrArg agree (hx.n1 _ _ _ _ _ _ q _ _ h)) (hy.n1 _ _ _ _ _ _ q _ _ h)
        . exact hx.n1 _ _ _ _ _ _ q _ _ h
        . exact hy.n1 _ _ _ _ _ _ q _ _ h
        . rfl
      . rfl
    . exact hx.n1 _ _ _ _ _ _ q _ _ h
    . exact hy.n1 _ _ _ _ _ _ q _ _ h
    . rfl
  . split
    . split
      . split
        . exact hx.n3 _ _ _ _ _ _ φ hφ _ hκ
        . exact hy.n3 _ _ _ _ _ _ φ hφ _ hκ
        . split
          . exact hx.n3 _ _ _ _ _ _ φ hφ _ hκ
          . exact hy.n3 _ _ _ _ _ _ φ hφ _ hκ
        . exact PC hφ (hx.n3 _ _ _ _ _ _ φ hφ _ hκ) (hy.n3 _ _ _ _ _ _ φ hφ _ hκ)
        . exact hx.n3 _ _ _ _ _ _ φ hφ _ hκ
        . exact hy.n3 _ _ _ _ _ _ φ hφ _ hκ
        . rfl
      . rfl
    . exact hx.n3 _ _ _ _ _ _ φ hφ _ hκ
    . exact hy.n3 _ _ _ _ _ _ φ hφ _ hκ
    . rfl)
 |.block id body=>ud (by
  have hx:=pW hN body;refine⟨fun an σ β1 β2 κ1 κ2 q γ e h=>?_,fun an σ β κ γ γ' φ hφ e hκ=>?_⟩
  . exact hx.n1 _ _ _ _ _ _ q _ _ fun δ e' ex σ'=>by
     cases ex with
     |normal=>exact h _ _ _ _
     |ret=>exact h _ _ _ _
     |exit n=>simp only[kB];split<;>exact h _ _ _ _
  . exact hx.n3 _ _ _ _ _ _ φ hφ _ (XR hκ))
 |.scope body=>ud (by
  have hx:=pW hN body;exact⟨fun an σ β1 β2 κ1 κ2 q γ e h=>hx.n1 _ _ _ _ _ _ q _ _ h,fun an σ β κ γ γ' φ hφ e hκ=>hx.n3 _ _ _ _ _ _ φ hφ _ hκ⟩)
 |.loop body=>Wx (pW hN body) fun s1 s2 rest e=>pW hN rest
 |.region _ ops draw=>ud (by
  refine⟨fun an σ β1 β2 κ1 κ2 q γ e h=>?_,fun an σ β κ γ γ' φ hφ e hκ=>?_⟩
  . simp only[h]
  . refine uz hφ hN fun σ' lg=>?_
    split
    . exact hκ _ _ _ hφ _ _ _
    . rfl)
 |.rangeFunc g ps x y=>ud ⟨fun an σ β1 β2 κ1 κ2 q γ e h=>by
  split
  . split
    . split
      . congr 1;funext r;split
        . exact A3 h
        . rfl
      . exact Qp fun r=>A3 h
    . rfl
  . rfl,fun an σ β κ γ γ' φ hφ e hκ=>by
  split
  . split
    . split
      . rw[nI (k:=fun r=>_),nI (γ:=γ) (k:=fun r=>_)];refine dn fun r=>?_
        split
        . exact ye hφ hκ
        . rfl
      . exact rO hφ (fun r=>ye hφ hκ) hN
    . rfl
  . rfl⟩
 |.goto _=>⟨fun _ _ _ _ _ _ _ _ _ _=>rfl,fun _ _ _ _ _ _ _ _ _ _=>rfl⟩
 |.refuse _=>⟨fun _ _ _ _ _ _ _ _ _ _=>rfl,fun _ _ _ _ _ _ _ _ _ _=>rfl⟩
termination_by c=>SizeOf.sizeOf c
decreasing_by all_goals first|decreasing_tactic|(subst_vars;simp;omega)
def codeOk(n:Nat):Code->Bool
 |.rangeFunc _ _ _ _=>true
 |.seq x y=>codeOk n x&&codeOk n y
 |.cond _ x y=>codeOk n x&&codeOk n y
 |.block _ x=>codeOk n x
 |.scope x=>codeOk n x
 |.loop x=>codeOk n x
 |.region _ ops d=>ops.toList.all (I9 n)&&(!d||D.tidy ops n)
 |_=>true
def dI:Code->List (Array Nat×Code×Code)
 |.seq x y=>dI x++dI y
 |.cond _ x y=>dI x++dI y
 |.block _ x=>dI x
 |.scope x=>dI x
 |.loop x=>dI x
 |.rangeFunc _ ps x y=>[(ps,x,y)]
 |_=>[]
def Yg(K:ep tb)(f n:Nat)(c:Code):Prop:=∀r∈dI c,K.rg (f*1000+tM r.2.1)=some ⟨r.1.toList,r.2.1,r.2.2,n⟩
def toEx:QY->Exit
 |.normal=>.normal
 |.ret=>.ret
 |.exit n=>.exit n
def Cx.ok(rr:Option Nat)(ds:Cx):Prop:=match rr with
 |none=>∃Ds,ds=⟨Q1 Ds,[.defs Ds]⟩
 |some _=>ds=⟨[],[]⟩
section
variable (P:Program)(K:ep tb)(tt:TypeId->Option (TI S))(Φ:List (dS S))(fa:FA S)(n:Nat)(B:List Nat)(m0:Mem)(rb:Nat->Option Gh)(rr:Option Nat)
def F9(ds:Cx):Prop:=∀(id:Nat) (ops:Array Oper) (γ:Type) (κ:AS S->Option γ) (z:γ) (σ:AS S) (g:GG S) (a:Act) (m:Mem) (L:List bR) (Q:Exit->Act->World->Prop),
 pf tb tt Φ fa false ops ops.toList 0 σ [] (fun σ' lg=>match !true||(xJ ops lg&&gD (σ'.ob.map (·.1)))with|true=>κ σ'|false=>none)=some z->codeOk n (.region id ops true)=true->Inv K n ds B m0 rb σ g a m L->
 (∀σ' g' a' m' L',κ σ'=some z->GE g g'->Le m m'->Inv K n ds B m0 rb σ' g' a' m' L'->Q .normal a' m'.w)->(Code.region id ops true).wpIn (FW rr) 0 P Q a m.w
def yK(c:Code)(f:W S):Prop:=∀(an:An) (σ:AS S) (β:Type) (κ:Kp S β) (γ:Type) (emb:β->γ) (z:γ) (g:GG S) (a:Act) (m:Mem) (L:List bR) (Q:Exit->Act->World->Prop) (ds:Cx),ds.ok rr->NK κ->f an σ β κ γ emb=some z->Inv K n ds B m0 rb σ g a m L->
 (∀ex σ' g' a' m' L' (ds':Cx),ds'.ok rr->κ γ emb ex σ'=some z->GE g g'->Le m m'->Inv K n ds' B m0 rb σ' g' a' m' L'->Q (toEx ex) a' m'.w)->c.wpIn (FW rr) 0 P Q a m.w
end
section
variable {n:Nat}{ds:Cx}{B:List Nat}{m0:Mem}{rb:Nat->Option Gh}{rr:Option Nat}
theorem N9{J:JA}{σ σ':AS S}{β γ:Type}{κ:Kp S β}{emb:β->γ}{ex:QY}{u:HT S J.ls}(hκ:NK κ)(h:kJ tb J σ κ emb (HT S J.ls⊕γ) id ex σ'=some (.inl u)):ex=.normal/\pack tb J σ σ'=some u:=by
 cases ex with
 |normal=>
  obtain⟨v,hv,he⟩:=aa.1 h
  have:=ax he
  simp only[id]at this
  cases this
  exact⟨rfl,hv⟩
 |ret=>
  have h1:=hκ γ (HT S J.ls⊕γ) .inr BQ emb .ret σ'
  have h2:κ (HT S J.ls⊕γ) (fun b=>.inr (emb b)) .ret σ'=some (.inl u):=h
  rw[h1]at h2
  obtain⟨_,_,h3⟩:=ab.1 h2
  cases h3
 |exit k=>
  have h1:=hκ γ (HT S J.ls⊕γ) .inr BQ emb (.exit k) σ'
  have h2:κ (HT S J.ls⊕γ) (fun b=>.inr (emb b)) (.exit k) σ'=some (.inl u):=h
  rw[h1]at h2
  obtain⟨_,_,h3⟩:=ab.1 h2
  cases h3
theorem G4{J:JA}{σ σ':AS S}{β γ:Type}{κ:Kp S β}{emb:β->γ}{ex:QY}{r:γ}(hκ:NK κ)(h:kJ tb J σ κ emb (HT S J.ls⊕γ) id ex σ'=some (.inr r)):κ γ emb ex σ'=some r/\ex≠ .normal:=by
 cases ex with
 |normal=>
  obtain⟨v,hv,he⟩:=aa.1 h
  have:=ax he
  simp only[id]at this
  cases this
 |ret=>
  have h1:=hκ γ (HT S J.ls⊕γ) .inr BQ emb .ret σ'
  have h2:κ (HT S J.ls⊕γ) (fun b=>.inr (emb b)) .ret σ'=some (.inr r):=h
  rw[h1]at h2
  obtain⟨_,h4,h3⟩:=ab.1 h2
  cases h3
  exact⟨h4,fun e=>by cases e⟩
 |exit k=>
  have h1:=hκ γ (HT S J.ls⊕γ) .inr BQ emb (.exit k) σ'
  have h2:κ (HT S J.ls⊕γ) (fun b=>.inr (emb b)) (.exit k) σ'=some (.inr r):=h
  rw[h1]at h2
  obtain⟨_,h4,h3⟩:=ab.1 h2
  cases h3
  exact⟨h4,fun e=>by cases e⟩
theorem OY{next:Act->World->Prop}{Q:Exit->Act->World->Prop}{ex:QY}{a:Act}{w:World}(h:ex≠ .normal)(hq:Q (toEx ex) a w):Exit.then next Q (toEx ex) a w:=by
 cases ex with
 |normal=>exact absurd rfl h
 |ret=>exact hq
 |exit k=>exact hq
theorem UL{c:Code}{f:W S}(hf:yK P K n B m0 rb rr c f):yK P K n B m0 rb rr c (Z2 tb c f):=by
 intro an σ β κ γ emb z g a m L Q ds hds hκ h hI hQ;unfold Z2 at h;split at h
 . rename_i J an';split at h
   . obtain⟨u,hu,h1⟩:=aa.1 h;split at h1
     . rename_i σ1 h2;refine UH (fun a' w'=>∃σ' g' m' L' ds',ds'.ok rr/\m'.w=w'/\pack tb (J.at_ c σ.fb) σ σ'=some u/\GE g g'/\Le m m'/\Inv K n ds' B m0 rb σ' g' a' m' L') ?_ ?_
       . rintro a' w' ⟨σ',g',m',L',ds',hds',rfl,k1,k2,k3,k4⟩;obtain⟨g1,m1,L1,hw,hle1,k5,k6⟩:=uH hI k4 k2 k3 k1 h2;rw[<- hw];exact hQ .normal σ1 g1 a' m1 L1 ds' hds' h1 k5 hle1 k6
       . refine hf an' σ (HT S J.ls) (kN tb (J.at_ c σ.fb) σ) (HT S J.ls) id u g a m L _ ds hds abg hu hI fun ex σ' g' a' m' L' ds' hds' k1 k2 k3 k4=>?_
         cases ex with
         |normal=>
          obtain⟨v,hv,he⟩:=aa.1 k1
          have:=ax he
          simp only[id]at this
          subst this
          exact⟨σ',g',m',L',ds',hds',rfl,hv,k2,k3,k4⟩
         |ret=>cases k1
         |exit _=>cases k1
     . cases h1
   . obtain⟨zz,hu,h1⟩:=aa.1 h
     cases zz with
     |inl u=>
      have h1':(match unpack tb (J.at_ c σ.fb) σ u with|some σ1=>κ γ emb .normal σ1|none=>none)=some z:=h1
      split at h1'
      . rename_i σ1 h2
        refine UH (fun a' w'=>∃σ' g' m' L' ds',ds'.ok rr/\m'.w=w'/\pack tb (J.at_ c σ.fb) σ σ'=some u/\GE g g'/\Le m m'/\Inv K n ds' B m0 rb σ' g' a' m' L') ?_ ?_
        . rintro a' w' ⟨σ',g',m',L',ds',hds',rfl,k1,k2,k3,k4⟩
          obtain⟨g1,m1,L1,hw,hle1,k5,k6⟩:=uH hI k4 k2 k3 k1 h2
          rw[<- hw]
          exact hQ .normal σ1 g1 a' m1 L1 ds' hds' h1' k5 hle1 k6
        . refine hf an' σ (HT S J.ls⊕γ) (kJ tb (J.at_ c σ.fb) σ κ emb) (HT S J.ls⊕γ) id (.inl u) g a m L _ ds hds (Oa hκ) hu hI fun ex σ' g' a' m' L' ds' hds' k1 k2 k3 k4=>?_
          obtain⟨rfl,k5⟩:=N9 (J:=J.at_ c σ.fb) hκ k1
          exact⟨σ',g',m',L',ds',hds',rfl,k5,k2,k3,k4⟩
      . cases h1'
     |inr r=>
      have h1':some r=some z:=h1
      have h1':=ax h1'
      rw[h1']at hu
      clear h1
      refine hf an' σ (HT S J.ls⊕γ) (kJ tb (J.at_ c σ.fb) σ κ emb) (HT S J.ls⊕γ) id (.inr z) g a m L _ ds hds (Oa hκ) hu hI fun ex σ' g' a' m' L' ds' hds' k1 k2 k3 k4=>?_
      exact hQ ex σ' g' a' m' L' ds' hds' (G4 (J:=J.at_ c σ.fb) hκ k1).1 k2 k3 k4
 . exact hf an σ β κ γ emb z g a m L Q ds hds hκ h hI hQ
variable {σ σ1:AS S}{a:Act}{L:List bR}{g:GG S}{m:Mem}
theorem ue{c:Code}{f:W S}(hf:yK P K n B m0 rb rr c f):yK P K n B m0 rb rr c (wj tb c f):=by
 intro an σ β κ γ emb z g a m L Q ds hds hκ h hI hQ;unfold wj at h;split at h
 . split at h
   . rename_i σ1 h1;obtain⟨g1,m1,L1,hw,hle,k1,k2⟩:=yd hI h1;rw[<- hw];exact UL hf _ σ1 β κ γ emb z g1 a m1 L1 Q ds hds hκ h k2 fun ex σ' g' a' m' L' ds' hds' j1 j2 j3 j4=>hQ ex σ' g' a' m' L' ds' hds' j1 (k1.trans j2) (hle.trans j3) j4
   . cases h
 . exact UL hf _ σ β κ γ emb z g a m L Q ds hds hκ h hI hQ
theorem UJ{Q:Exit->Act->World->Prop}{gop:Operand}{ps:Array Tmp}{fC body:Code}{gf:FuncId}{cap:List Value}{Ds:List Nat}{X:List bR}(hd:a.defers=Q1 Ds)(hS:St B m0 m (X++[.defs Ds]))(hg:a.eval gop=.func (.func gf) #[] cap.toArray)
 (h:∀l D R m1,Le m m1->E1 R ps a.tmps fC body->St B m0 m1 (.obj l (.loop (R .ready none))::(X++[.defs (D::Ds)]))->Enters P gf/\Calls P gf (.func (.yield l) #[] #[]::cap).toArray m1.w fun e w'=>∃v,e=.returned v/\∃jump w'',(Instr.endLoop l).run P w'= .ok jump w''/\
  (match jump with|none=>Q .normal {a with defers:=Q1 (D::Ds)} w''|some c=>c.wpIn (FW none) 0 P Q {a with defers:=Q1 (D::Ds)} w'')):(Code.rangeFunc gop ps fC body).wpIn (FW none) 0 P Q a m.w:=by
 refine wpIn_rangeFunc fun fn _=>?_
 have s1:St B m0 m (.defs Ds::X):=hS.perm aK
 have s2:=s1.newObj (.deferred (some []))
 have s3:=s2.two (e:=.defs (m.w.heap.size::Ds)) rfl (fun h1 h2 D hD=>by
  simp at hD;rcases hD with rfl|hD
  . exact h1
  . exact h2 D hD) (fun _ _ _=>trivial) (fun _ _ _=>trivial)
 let rec_:LoopState->Option Code->Loop:=fun st pe=>{state:=st,pending:=pe,fn:=fn,tmps:=a.tmps,params:=ps,assign:=fC,body:=body,defers:=m.w.heap.size}
 have s4:=s3.newObj (.loop (rec_ .ready none))
 have hl:(m.w.alloc (.deferred (some []))).heap.size=m.w.heap.size+1:=World.size_alloc _ _
 have hle1:Le m ⟨(m.w.alloc (.deferred (some []))).alloc (.loop (rec_ .ready none)),_⟩:=(Le.alloc m (.deferred (some []))).trans (Le.alloc _ (.loop (rec_ .ready none)))
 simp only[hl]at s4
 obtain⟨hen,hcall⟩:=h (m.w.heap.size+1) m.w.heap.size rec_ _ hle1 ⟨fn,m.w.heap.size,rfl⟩ (s4.perm (List.Perm.cons _ (aK (l₁:=[bR.defs (m.w.heap.size::Ds)]))))
 have hargs:(#[.func (.yield (m.w.heap.size+1)) #[] #[]]++cap.toArray:Array Value)=(.func (.yield (m.w.heap.size+1)) #[] #[]::cap).toArray:=by simp
 refine⟨m.w.heap.size+1,[{target:=.collected m.w.heap.size,args:= #[]}],(m.w.alloc (.deferred (some []))).alloc (.loop (rec_ .ready none)),{target:=.fn (.func gf) cap.toArray,args:= #[.func (.yield (m.w.heap.size+1)) #[] #[]]},
  (m.w.alloc (.deferred (some []))).alloc (.loop (rec_ .ready none)),gf,#[.func (.yield (m.w.heap.size+1)) #[] #[]]++cap.toArray,(m.w.alloc (.deferred (some []))).alloc (.loop (rec_ .ready none)),run_enterLoop_outer _ _ _ _ _,?_,fun _ _=>trivial,?_,fun h=>by simp[FW]at h,?_⟩
 . simp only[resolve,hg]
   simp[go_sem]
 . simp only[invoke];exact hen _ _
 . rw[hargs]
   refine(IZ none hcall).mono ?_
   rintro e w ⟨v,rfl,jump,w',hend,hx⟩
   refine⟨jump,w',hend,?_⟩
   have hdd:({a with defers:=[{target:=.collected m.w.heap.size,args:= #[]}]++a.defers}:Act)={a with defers:=Q1 (m.w.heap.size::Ds)}:=by rw[hd];rfl
   rw[hdd]
   cases jump<;>exact hx
theorem Inv.aaj{ds ds':Cx}{a':Act}(hI:Inv K n ds B m0 rb σ g a m L)(ht:a'.tmps=a.tmps)(hd:a'.defers=ds'.d)(hS:St B m0 m (L++ds'.X)):Inv K n ds' B m0 rb σ g a' m L:=by
 have he:∀t,a'.eval (.tmp t)=a.eval (.tmp t):=fun t=>by simp only[Act.eval,ht]
 exact⟨by rw[ht];exact hI.size,hd,fun t bT v h=>by rw[he];exact hI.at_ t bT v h,hI.tm,hI.ob,hS,hI.fresh,hI.rt⟩
theorem J7(hT:dx P K tt){gop:Operand}{ps:Array Nat}{x y:Code}{f:FuncId}{caps:List (CV S)}{r:Nat}{γ:Type}{z:γ}{β:Type}{κ:Kp S β}{emb:β->γ}{Q:Exit->Act->World->Prop}{ds:Cx}
 (hds:ds.ok none) (hI:Inv K n ds B m0 rb σ g a m L) (hfb:σ.fb=0) (hop:pz tt σ 0 gop=some (.one (.fn (.func f) [] caps))) (hf:f<=999999) (hrg:K.rg r=some ⟨ps.toList,x,y,n⟩)
 (h:KJ P K f (.one (.yl (σ.ct+1))::caps.map yL) (my σ (.loop r .ready σ.tm)).ob (σ.ct+64) (fun r'=>kb (σ.ct+1) ((my σ (.loop r .ready σ.tm)).la none none r') κ emb) z)
 (hQ:∀ex σ' g' a' m' L' (ds':Cx),ds'.ok none->κ γ emb ex σ'=some z->GE g g'->Le m m'->Inv K n ds' B m0 rb σ' g' a' m' L'->Q (toEx ex) a' m'.w):(Code.rangeFunc gop ps x y).wpIn (FW none) 0 P Q a m.w:=by
 obtain⟨Ds,rfl⟩:=hds
 have hop':=DG hT hI hop
 simp only[bP,bM]at hop'
 obtain⟨v1,v2,e1,e2,e3⟩:=hop'
 simp only[iK]at e2
 subst e2
 simp only[bc,and_true]at e1
 obtain⟨rd,rm,hn,h4⟩:=h
 refine UJ (X:=L) hI.defers hI.st e1 fun l D R m1 hle hR hS=>?_
 let e0:bR:=.obj l (.loop (R .ready none))
 let g1:GG S:={bk:=fun i=>if i=σ.ct+1 then some ⟨some l,none,0,0,default⟩else g.bk i,vv:=g.vv,oo:=fun i=>if i=σ.ct+32 then some (.loop r .ready σ.tm,e0)else g.oo i}
 have ge1:GE g g1:=⟨fun i y hy=>by
  show(if i=σ.ct+1 then _ else g.bk i)=_;rw[if_neg fun e=>by rw[e,(hI.fresh _ (by omega)).1]at hy;cases hy];exact hy,fun _ _ h=>h,fun i y hy=>by
  show(if i=σ.ct+32 then _ else g.oo i)=_;rw[if_neg fun e'=>by rw[e',(hI.fresh _ (by omega)).2.2]at hy;cases hy];exact hy⟩
 have hb1:g1.bk (σ.ct+1)=some ⟨some l,none,0,0,default⟩:=if_pos rfl
 have hobj:iY K g1 m1 (σ.ct+1) (.loop r .ready σ.tm) e0:=⟨_,l,R,_,a.tmps,hb1,rfl,hrg,rfl,by simpa using hR,hI.size,fun t bT v hl=>by
  have h5:=hI.at_ t bT v (by rw[hfb,aL];exact hl);obtain⟨u,h6,h7⟩:=hI.tm t bT v hl;rw[h5]at h6;have h6:=ax h6;subst h6;exact h7.mono ge1 hle⟩
 let a1:Act:={a with defers:=Q1 (D::Ds)}
 let ds1:Cx:=⟨Q1 (D::Ds),[.defs (D::Ds)]⟩
 have hI1:Inv K n ds1 B m0 rb (my σ (.loop r .ready σ.tm)) g1 a1 m1 (e0::L):=by
  refine⟨hI.size,rfl,fun t bT v h=>hI.at_ t bT v h,fun s bT v h=>?_,⟨e0,L,rfl,if_pos rfl,hobj,hI.ob.mono ge1 hle⟩,hS,fun i hi=>⟨?_,?_,?_⟩,⟨hI.rt.1,fun j q hj=>?_⟩⟩
  . obtain⟨u,k1,k2⟩:=hI.tm s bT v h;exact⟨u,k1,k2.mono ge1 hle⟩
  . have hi:σ.ct+64<=i:=hi;show(if i=σ.ct+1 then _ else g.bk i)=_;rw[if_neg (by omega)];exact(hI.fresh i (by omega)).1
  . have hi:σ.ct+64<=i:=hi;exact(hI.fresh i (by omega)).2.1
  . have hi:σ.ct+64<=i:=hi;show(if i=σ.ct+32 then _ else g.oo i)=_;rw[if_neg (by omega)];exact(hI.fresh i (by omega)).2.2
  . obtain⟨h,k1,k2⟩:=hI.rt.2 j q hj;exact⟨h,k1,ge1.bk _ _ k2⟩
 obtain⟨Lr,Lm,Lz,R',Y,q1,q2,q3,p1,p2⟩:=xY hI1.ob hn
 have hOw:Ow m1 (Lr++Lm):=(hI1.st.ow.left.perm p1).left
 have key:=h4 g1 m1 (.func (.yield l) #[] #[]::v2) Lr Lm (fun i hi _=>hI1.fresh i hi) (K.Bm hI1.rt.1 hI1.st.le) (by
  simp only[db];refine⟨_,_,rfl,?_,nG (iK.mono ge1 hle e3)⟩;simp only[bP,bM];exact⟨_,l,hb1,rfl,rfl⟩) q1 q2 hOw
 unfold sy at key
 rw[if_pos hf]at key
 refine⟨key.1,Calls.mono key.2 fun e w' ⟨v,res,hv,h1,er1,er2,h2,hDid⟩=>⟨v,hv,?_⟩⟩
 subst er1;subst er2
 obtain⟨g2,m2,L2,rfl,ge2,hle2,hI2⟩:=HM hI1 (d:=none) (mv:=none) (fun _ h=>by cases h) h2 q3 p1 p2 hDid (fun _ h=>by cases h)
 have hap:a1.put none v=a1:=rfl
 rw[hap]at hI2
 unfold kb at h1
 simp only at h1
 have fin:∀st tm' rr' ver,look (σ.ct+1) ((my σ (.loop r .ready σ.tm)).la none none res).ob=some (ver,.loop rr' st tm')->zE st≠ .busy->∃m3 L3,(Instr.endLoop l).run P m2.w=.ok (ER st) m3.w/\Le m2 m3/\Inv K n ds1 B m0 rb {(my σ (.loop r .ready σ.tm)).la none none res with ob:=dH [σ.ct+1] ((my σ (.loop r .ready σ.tm)).la none none res).ob} g2 a1 m3 L3:=fun st tm' rr' ver hlk hst=>by
  obtain⟨e,L0,Rst,ho,hp,hob⟩:=nv (X:=[]) hI2.ob hlk;obtain⟨gh,l',R2,rg,tmps,o1,o2,_,rfl,o5,_,_⟩:=ho;have hb2:=ge2.bk _ _ hb1;rw[hb2]at o1;cases o1;cases o2;have s5:St B m0 m2 (.obj l (.loop (R2 (zE st) (ER st)))::((L0++ds1.X)++Rst)):=hI2.st.perm ((hp.append_right _).trans (by
   rw[aV,az,az];exact List.Perm.cons _ (aY _ aK)))
  obtain⟨m3,r1,r2,r3⟩:=TR (P:=P) (zE st) (ER st) hst o5 (k:=0) s5 rfl;have r3:=St.ox r3;exact⟨m3,L0,r1,r2,hI2.size,hI2.defers,hI2.at_,fun s bT v h=>(let⟨u,k1,k2⟩:=hI2.tm s bT v h;⟨u,k1,k2.mono (GE.refl _) r2⟩),hob.mono (GE.refl _) r2,r3,hI2.fresh,hI2.rt⟩
 have hds1:ds1.ok none:=⟨D::Ds,rfl⟩
 split at h1
 case h_2=>cases h1
 case h_1 ver rr' st tm' hlk=>
 split at h1
 . obtain⟨m3,L3,r1,r2,r3⟩:=fin _ _ _ _ hlk (by simp[zE])
   exact⟨none,m3.w,r1,hQ .normal _ g2 a1 m3 L3 ds1 hds1 h1 (ge1.trans ge2) ((hle.trans hle2).trans r2) r3⟩
 . obtain⟨m3,L3,r1,r2,r3⟩:=fin _ _ _ _ hlk (by simp[zE])
   exact⟨some .ret,m3.w,r1,wpIn_ret (hQ .ret _ g2 a1 m3 L3 ds1 hds1 h1 (ge1.trans ge2) ((hle.trans hle2).trans r2) r3)⟩
 . obtain⟨m3,L3,r1,r2,r3⟩:=fin _ _ _ _ hlk (by simp[zE])
   exact⟨some (.exit _),m3.w,r1,wpIn_exit (hQ (.exit _) _ g2 a1 m3 L3 ds1 hds1 h1 (ge1.trans ge2) ((hle.trans hle2).trans r2) r3)⟩
 . cases h1
theorem abf{J:JA}{σ σ':AS S}{β γ:Type}{κ:Kp S β}{emb:β->γ}{ex:QY}{u:HT S J.ls}{q ver:Nat}(hκ:NK κ)(h:kM tb q ver J σ κ emb (HT S J.ls⊕γ) id ex σ'=some (.inl u)):ex=.normal/\pack tb J σ σ'=some u/\∃ao,look q σ'.ob=some (ver,ao):=by
 cases ex with
 |normal=>
  simp only[kM]at h
  split at h
  . rename_i v ao hl
    split at h
    . rename_i hv
      obtain rfl:=ah hv
      obtain⟨w,hw,he⟩:=aa.1 h
      have:=ax he
      simp only[id]at this
      cases this
      exact⟨rfl,hw,ao,hl⟩
    . cases h
  . cases h
 |ret=>cases(N9 (tb:=tb) (J:=J) (σ:=σ) (ex:=.ret) (σ':=σ') (u:=u) hκ h).1
 |exit k=>cases(N9 (tb:=tb) (J:=J) (σ:=σ) (ex:=.exit k) (σ':=σ') (u:=u) hκ h).1
theorem Zi{J:JA}{σ σ':AS S}{β γ:Type}{κ:Kp S β}{emb:β->γ}{ex:QY}{r:γ}{q ver:Nat}(hκ:NK κ)(h:kM tb q ver J σ κ emb (HT S J.ls⊕γ) id ex σ'=some (.inr r)):κ γ emb ex σ'=some r/\ex≠ .normal:=by
 cases ex with
 |normal=>
  simp only[kM]at h
  split at h
  . split at h
    . obtain⟨w,hw,he⟩:=aa.1 h
      have:=ax he
      simp only[id]at this
      cases this
    . cases h
  . cases h
 |ret=>exact G4 (tb:=tb) (J:=J) (σ:=σ) (ex:=.ret) (σ':=σ') hκ h
 |exit k=>exact G4 (tb:=tb) (J:=J) (σ:=σ) (ex:=.exit k) (σ':=σ') hκ h
theorem SH{ops:Array Oper}{it nx c:Nat}(h:hd2 ops=some (it,nx,c)):∃a b,ops.toList=[a,b]/\a.op=.next (.tmp it) false/\a.dst=some nx/\a.guard=none/\b.op=.extract (.tmp nx) 0/\b.dst=some c/\b.guard=none:=by
 unfold hd2 at h;split at h
 . rename_i a b he;split at h
   . rename_i h1 h2 h3 h4 h5 h6;split at h
     . rename_i hn;obtain rfl:=ah hn;cases h;exact⟨a,b,he,h1,h2,h3,h4,h5,h6⟩
     . cases h
   . cases h
 . cases h
structure aae(sk:List (Value×Nat))(seen:Array Nat)(R:List Nat):Prop where
 nd:R.Nodup
 lt:∀i∈R,i<sk.length
 mem:∀i p,sk[i]?=some p->(seen.contains p.2=false↔i∈R)
theorem abi{rest:Code}{f:W S}{an:An}{id0:Nat}{ops:Array Oper}{it nx c out:Nat}(hnx:Nat.ble (nx+1) n=true)(hc:Nat.ble (c+1) n=true)(hhd:hd2 ops=some (it,nx,c))(hx:yK P K n B m0 rb rr rest f)
 {J:JA} {σ:AS S} {q:Nat} {β γ:Type} {κ:Kp S β} {emb:β->γ} {z:γ} {g:GG S} {a:Act} {m:Mem} {L:List bR} {Q:Exit->Act->World->Prop} {ds:Cx} (hds:ds.ok rr) (hκ:NK κ)
 (h:WD tb J q σ it nx c out (fun σ2 β κ γ emb=>f an σ2 β κ γ emb) κ emb=some z) (hI:Inv K n ds B m0 rb σ g a m L)
 (hQ:∀ex σ' g' a' m' L' (ds':Cx),ds'.ok rr->κ γ emb ex σ'=some z->GE g g'->Le m m'->Inv K n ds' B m0 rb σ' g' a' m' L'->Q (toEx ex) a' m'.w):
 (Code.loop (.seq (.region id0 ops false) (.seq (.cond (.tmp c) .skip (.exit out)) rest))).wpIn (FW rr) 0 P Q a m.w:=by
 have hnx:=aj hnx
 have hc:=aj hc
 unfold WD at h
 split at h
 case h_2=>cases h
 case h_1 ver kc o hlq=>
 split at h
 case h_2=>cases h
 case h_1 ver2 t kc1 vc l q1 hlo=>
 split at h
 case h_2=>cases h
 case h_1 hk _ hq1=>
 obtain rfl:=ah hq1
 subst hk
 obtain⟨z0,hz0,h⟩:=aa.1 h
 obtain⟨_,hall⟩:=Ce h
 clear h
 simp only[SS]at hall
 obtain⟨e,he,_,gq,go,r,seen0,j1,j2,j3,j4,rfl,j6⟩:=qg hI.ob hlq
 obtain⟨e2,he2,_,gm,b,es0,gq',m1,m2,m3,m4,rfl,m5,m6,m7⟩:=qg hI.ob hlo
 rw[j1]at m3;cases m3
 have hseen:seen0= #[]:=j6
 subst hseen
 have hlen:l.length=gq.sk.length:=by
  rw[<- m7,aQ];exact m5.vw.len.symm
 have hkey:∀(i:Nat) (p:Value×Nat),gq.sk[i]?=some p->∃y,(l.map (·.1))[i]?=some y/\dv K kc1 m y p.1:=fun i p hp=>by
  rw[<- m7,List.getElem?_map]at hp;obtain⟨e0,he0,rfl⟩:=ab.1 hp;obtain⟨pp,p1,p2⟩:=m5.vw.at he0;exact⟨pp.1,by rw[List.getElem?_map,p1];rfl,p2.1⟩
 let ks:List (T S kc1):=l.map (·.1)
 let F:T S kc1->HT S J.ls->Option (HT S J.ls⊕γ):=fun x z=>match unpack tb J σ z with
  |some σ1=>(match Qo q1 it nx c x σ1 with
   |some σ2=>f an σ2 (HT S J.ls⊕γ) (kM tb q1 (σ1.ct+32) J σ κ emb) (HT S J.ls⊕γ) id
   |none=>none)
  |none=>none
 let E:HT S J.ls->Option γ:=fun z=>match unpack tb J σ z with
  |some σ1=>(match FJ q1 it nx c σ1 with
   |some σ2=>κ γ emb (.exit out) σ2
   |none=>none)
  |none=>none
 refine UI (fun k a' w'=>∃(zz:HT S J.ls) (R:List Nat) (seen:Array Nat) (ds':Cx),R.length=k/\ds'.ok rr/\aae gq.sk seen R/\w'.heap[r]?=some (.mapIter (some gq.cap) gq.n seen gq.n)/\
  (∀p:List (T S kc1),p.Perm (R.filterMap fun i=>ks[i]?)->qK F E p zz=some z)/\∀σ1,unpack tb J σ zz=some σ1->∃g1 m1 L1,m1.w=w'/\Le m m1/\GE g g1/\Inv K n ds' B m0 rb σ1 g1 a' m1 L1)
  ⟨_,z0,List.range gq.sk.length,#[],ds,rfl,hds,⟨List.nodup_range,fun i hi=>List.mem_range.1 hi,fun i p hp=>⟨fun _=>List.mem_range.2 (List.getElem?_eq_some_iff.1 hp).1,fun _=>by simp⟩⟩,xC hI he,?_,fun σ1 h2=>uH hI hI (GE.refl g) (Le.refl m) hz0 h2⟩ ?_
 . intro p hp
   refine hall p (hp.trans ?_)
   have:(List.range gq.sk.length).filterMap (fun i=>ks[i]?)=l.map (·.1):=by
    rw[<- hlen,<- aQ (f:=fun x:T S kc1×T S vc=>x.1)];exact Qv _
   rw[this]
 . rintro k a' w' ⟨zz,R,seen,ds',rfl,hds',hL,hheap,hfold,hinv⟩
   have hu:∃σ1,unpack tb J σ zz=some σ1/\L5 q1 it σ1=true:=by
    have h1:=hfold _ (List.Perm.refl _);cases hp:R.filterMap (fun i=>ks[i]?)with
    |nil=>
     rw[hp]at h1
     simp only[qK,E]at h1
     split at h1
     . rename_i σ1 hs1
       split at h1
       . rename_i hs2;exact⟨σ1,hs1,S9 hs2⟩
       . cases h1
     . cases h1
    |cons x p=>
     rw[hp]at h1
     simp only[qK]at h1
     obtain⟨y,hy,_⟩:=aa.1 h1
     simp only[F]at hy
     split at hy
     . rename_i σ1 hs1
       split at hy
       . rename_i hs2;exact⟨σ1,hs1,WB hs2⟩
       . cases hy
     . cases hy
   obtain⟨σ1,hs1,hat⟩:=hu
   obtain⟨g1,m1',L1,rfl,le1,ge1,hI1⟩:=hinv σ1 hs1
   obtain⟨ver',o',ver2',t',kc',vc',st',l',gq',r',seen',es',hA⟩:=WA hI1 hat
   have eg:=hA.bk
   rw[ge1.bk _ _ j1]at eg
   cases eg
   have er:=hA.gr
   rw[j2]at er
   cases er
   have es_:=hA.hr
   rw[hheap]at es_
   cases es_
   have hst:=(MapKept.stamped_iff es' gq.n).1 hA.mp.st
   obtain⟨oa,ob,e0,a1,a2,a3,b1,b2,b3⟩:=SH hhd
   have hsz:a'.tmps.size=n:=hI1.size
   refine KA (El ?_)
   rw[e0]
   rcases run_next_at (P:=P) m1'.w oa.type r gq.cap gq.n gq.n seen es' gq.n hheap hA.hb hst.1 (Nat.le_refl _)with⟨h0,hrun⟩|⟨en,hen,w1,hw1,hrun⟩
   ·
    have hR:R=[]:=by
     cases R with
     |nil=>rfl
     |cons i R'=>
      exfalso
      have hi:=hL.lt i aq
      obtain⟨pi,hp⟩:∃p,gq.sk[i]?=some p:=⟨_,List.getElem?_eq_getElem hi⟩
      have hns:=(hL.mem i _ hp).2 aq
      rw[<- hA.sk,List.getElem?_map]at hp
      obtain⟨e0',he0',hpe⟩:=ab.1 hp
      have:e0'∈(leftOf es' seen).toList:=by
       rw[<- hpe]at hns;simp only at hns;unfold leftOf;simp only[Array.toList_filter,bu];exact⟨List.mem_of_getElem? he0',by rw[hns];rfl⟩
      have h1:(leftOf es' seen).toList.length=0:=by simpa using h0
      rw[List.length_eq_zero_iff.1 h1]at this
      cases this
    subst hR
    have hend:=hfold [] (List.Perm.refl _)
    simp only[qK,E,hs1]at hend
    split at hend
    case h_2=>cases hend
    case h_1 σ2 hs2=>
    obtain⟨g2,L2,ge2,hI2⟩:=Ta hI1 hA hs2 (.tuple #[.bool false]) (.bool false)
    have st1:bI P oa a' m1'.w fun v w=>v=.tuple #[.bool false]/\w=m1'.w:=by
     unfold bI;have:(execOp a'.eval oa).run P m1'.w=.ok (.value (.tuple #[.bool false])) m1'.w:=by simp[execOp,a1,hA.ev,hrun]
     rw[this];exact⟨rfl,rfl⟩
    refine wpListIn_plain a3 fun KK hKK=>st1.wp fun v w' ⟨hv,hw⟩=>?_
    subst hv;subst hw
    refine hKK _ _ ?_
    rw[a2]
    have hev:(a'.put (some nx) (.tuple #[.bool false])).eval (.tmp nx)=.tuple #[.bool false]:=D.iU (by rw[hsz];exact hnx)
    have st2:bI P ob (a'.put (some nx) (.tuple #[.bool false])) m1'.w fun v w=>v=.bool false/\w=m1'.w:=by
     unfold bI;have:(execOp (a'.put (some nx) (.tuple #[.bool false])).eval ob).run P m1'.w=.ok (.value (.bool false)) m1'.w:=by simp[execOp,b1,hev,Instr.extract]
     rw[this];exact⟨rfl,rfl⟩
    refine wpListIn_plain b3 fun K2 hK2=>st2.wp fun v w' ⟨hv,hw⟩=>?_
    subst hv;subst hw
    refine hK2 _ _ (wpListIn_nil (wG ?_))
    rw[b2]
    have hcv:((a'.put (some nx) (.tuple #[.bool false])).put (some c) (.bool false)).eval (.tmp c)=.bool false:=D.iU (by rw[show(a'.put (some nx) (.tuple #[.bool false])).tmps.size=n by simp[Act.put,hsz]];exact hc)
    exact KA (wpIn_cond_false hcv (wpIn_exit (Uz (Uz (hQ (.exit out) σ2 g2 _ m1' L2 ds' hds' hend (ge1.trans ge2) le1 hI2)))))
   ·
    have hen2:en∈es'.toList/\seen.contains en.born=false:=by
     unfold leftOf at hen;simp only[Array.toList_filter,bu]at hen;exact⟨hen.1,by simpa using hen.2⟩
    obtain⟨i,hi⟩:=List.mem_iff_getElem?.1 hen2.1
    have hsk:gq.sk[i]?=some (en.key,en.born):=by rw[<- hA.sk,List.getElem?_map,hi];rfl
    have hiR:i∈R:=(hL.mem i _ hsk).1 hen2.2
    obtain⟨x,hx1,hx2⟩:=hkey i _ hsk
    have hx1:ks[i]?=some x:=hx1
    have hpm:∀p':List (T S kc1),p'.Perm ((R.erase i).filterMap fun i=>ks[i]?)->qK F E (x::p') zz=some z:=fun p' hp'=>by
     refine hfold _ (List.Perm.symm ?_);have h1:=(List.perm_cons_erase hiR).filterMap fun i=>ks[i]?
     refine h1.trans ?_;rw[List.filterMap_cons,hx1];exact List.Perm.cons _ hp'.symm
    have hF:=hpm _ (List.Perm.refl _)
    simp only[qK]at hF
    obtain⟨y,hy,_⟩:=aa.1 hF
    clear hF
    have hy0:=hy
    simp only[F,hs1]at hy
    split at hy
    case h_2=>cases hy
    case h_1 σ2 hs2=>
    obtain⟨g2,m2',L2,hw2,le2,ge2,hI2,ao2,hoo⟩:=WC hI1 hA hs2 hw1 hsk (dv.mono K le1 hx2) (.tuple #[.bool true,en.key,en.val]) (.bool true)
    have st1:bI P oa a' m1'.w fun v w=>v=.tuple #[.bool true,en.key,en.val]/\w=m2'.w:=by
     unfold bI;have:(execOp a'.eval oa).run P m1'.w=.ok (.value (.tuple #[.bool true,en.key,en.val])) m2'.w:=by
      rw[hw2];simp[execOp,a1,hA.ev,hrun]
     rw[this];exact⟨rfl,rfl⟩
    refine wpListIn_plain a3 fun KK hKK=>st1.wp fun v w' ⟨hv,hw⟩=>?_
    subst hv;subst hw
    refine hKK _ _ ?_
    rw[a2]
    have hev:(a'.put (some nx) (.tuple #[.bool true,en.key,en.val])).eval (.tmp nx)=.tuple #[.bool true,en.key,en.val]:=D.iU (by rw[hsz];exact hnx)
    have st2:bI P ob (a'.put (some nx) (.tuple #[.bool true,en.key,en.val])) m2'.w fun v w=>v=.bool true/\w=m2'.w:=by
     unfold bI;have:(execOp (a'.put (some nx) (.tuple #[.bool true,en.key,en.val])).eval ob).run P m2'.w=.ok (.value (.bool true)) m2'.w:=by simp[execOp,b1,hev,Instr.extract]
     rw[this];exact⟨rfl,rfl⟩
    refine wpListIn_plain b3 fun K2 hK2=>st2.wp fun v w' ⟨hv,hw⟩=>?_
    subst hv;subst hw
    refine hK2 _ _ (wpListIn_nil (wG ?_))
    rw[b2]
    have hcv:((a'.put (some nx) (.tuple #[.bool true,en.key,en.val])).put (some c) (.bool true)).eval (.tmp c)=.bool true:=D.iU (by rw[show(a'.put (some nx) (.tuple #[.bool true,en.key,en.val])).tmps.size=n by simp[Act.put,hsz]];exact hc)
    refine KA (wpIn_cond_true hcv (wpIn_skip (wG ?_)))
    refine hx an σ2 (HT S J.ls⊕γ) (kM tb q1 (σ1.ct+32) J σ κ emb) (HT S J.ls⊕γ) id y g2 _ m2' L2 _ ds' hds' (XU hκ) hy hI2 fun ex σ' g' a'' m' L' ds2 hds2 k1 k2 k3 k4=>?_
    cases y with
    |inl z'=>
     obtain⟨rfl,hpk,ao,hl'⟩:=abf hκ k1
     obtain⟨ee,hee,hoo',_⟩:=qg k4.ob hl'
     rw[k2.oo _ _ hoo]at hoo'
     cases hoo'
     have hlenE:(R.erase i).length<R.length:=by
      have:=List.length_erase_of_mem hiR;have:0<R.length:=List.length_pos_of_mem hiR;omega
     refine wG ⟨(R.erase i).length,hlenE,z',R.erase i,seen.push en.born,ds2,rfl,hds2,⟨hL.nd.erase i,fun j hj=>hL.lt j (List.mem_of_mem_erase hj),fun j p hp=>?_⟩,xC k4 hee,fun p' hp'=>?_,fun σ3 h3=>?_⟩
     . rw[hL.nd.mem_erase_iff]
       by_cases hji:j=i
       . subst hji
         rw[hsk]at hp;cases hp
         simp
       . have hne:p.2≠en.born:=fun e=>by
          have n1:=hst.2.1;rw[<- hA.sk,List.getElem?_map]at hp;obtain⟨ej,hej,hpe⟩:=ab.1 hp;rw[<- hpe]at e;simp only at e;have hj1:(es'.toList.map (·.born))[j]?=some en.born:=by rw[List.getElem?_map,hej];simp[e]
          have hi1:(es'.toList.map (·.born))[i]?=some en.born:=by rw[List.getElem?_map,hi];rfl
          exact hji ((List.getElem?_inj (List.getElem?_eq_some_iff.1 hj1).1 n1).1 (hj1.trans hi1.symm))
         rw[<- hL.mem j p hp]
         simp[hji,hne]
     . have:=hpm p' hp'
       simp only[qK,hy0,ae]at this
       exact this
     . exact uH hI k4 ((ge1.trans ge2).trans k2) ((le1.trans le2).trans k3) hpk h3
    |inr rr'=>
     obtain⟨k5,k6⟩:=Zi hκ k1
     have:=hpm _ (List.Perm.refl _)
     simp only[qK,hy0,ae,af]at this
     subst this
     exact OY k6 (hQ ex σ' g' a'' m' L' ds2 hds2 k5 ((ge1.trans ge2).trans k2) ((le1.trans le2).trans k3) k4)
theorem XZ{fa:FA S}(hΨ:∀c∈fa.nd,mS P K c):∀c∈fa.nd,c.Nat:=fun c hc=>(hΨ c hc).nat
theorem oe(hT:dx P K tt)(hΦ:∀c∈Φ,Sound P K c)(hΨ:∀c∈fa.nd,mS P K c)(hrr:fa.rd=false->rr=none)(hD:∀ds,F9 P K tt Φ fa n B m0 rb rr ds):∀c:Code,codeOk n c=true->Yg K fa.fn n c->yK P K n B m0 rb rr c (yG tb tt Φ fa c)
 |.skip,_,_=>ue fun an σ β κ γ emb z g a m L Q ds hds hκ h hI hQ=>wpIn_skip (hQ .normal σ g a m L ds hds h (GE.refl g) (Le.refl m) hI)
 |.label l,_,_=>by
  have:yG tb tt Φ fa (.label l)=wj tb (.label default) fun _ σ _ κ γ emb=>κ γ emb .normal σ:=rfl
  rw[this];intro an σ β κ γ emb z g a m L Q ds hds hκ h hI hQ;refine ue (c:=.label l) (f:=fun _ σ _ κ γ emb=>κ γ emb .normal σ) (fun an σ β κ γ emb z g a m L Q ds hds hκ h hI hQ=>wpIn_label (hQ .normal σ g a m L ds hds h (GE.refl g) (Le.refl m) hI)) an σ β κ γ emb z g a m L Q ds hds hκ h hI hQ
 |.ret,_,_=>ue fun an σ β κ γ emb z g a m L Q ds hds hκ h hI hQ=>wpIn_ret (hQ .ret σ g a m L ds hds h (GE.refl g) (Le.refl m) hI)
 |.exit k,_,_=>ue fun an σ β κ γ emb z g a m L Q ds hds hκ h hI hQ=>wpIn_exit (hQ (.exit k) σ g a m L ds hds h (GE.refl g) (Le.refl m) hI)
 |.seq x y,hc,hg=>ue (by
  simp only[codeOk,al]at hc;have hx:=oe hT hΦ hΨ hrr hD x hc.1 fun r hr=>hg r (aU _ hr)
  have hy:=oe hT hΦ hΨ hrr hD y hc.2 fun r hr=>hg r (ba _ hr)
  intro an σ β κ γ emb z g a m L Q ds hds hκ h hI hQ;refine KA (hx an.l1 σ β (kS (yG tb tt Φ fa y) an.r1 κ) γ emb z g a m L _ ds hds (XV (pW (XZ hΨ) y) hκ) h hI fun ex σ' g' a' m' L' ds' hds' k1 k2 k3 k4=>?_)
  cases ex with
  |normal=>exact hy an.r1 σ' β κ γ emb z g' a' m' L' Q ds' hds' hκ k1 k4 fun ex2 σ2 g2 a2 m2 L2 ds2 hds2 j1 j2 j3 j4=>hQ ex2 σ2 g2 a2 m2 L2 ds2 hds2 j1 (k2.trans j2) (k3.trans j3) j4
  |ret=>exact hQ .ret σ' g' a' m' L' ds' hds' k1 k2 k3 k4
  |exit k=>exact hQ (.exit k) σ' g' a' m' L' ds' hds' k1 k2 k3 k4)
 |.cond c x y,hc,hg=>ue (by
  simp only[codeOk,al]at hc;have hx:=oe hT hΦ hΨ hrr hD x hc.1 fun r hr=>hg r (aU _ hr)
  have hy:=oe hT hΦ hΨ hrr hD y hc.2 fun r hr=>hg r (ba _ hr)
  intro an σ β κ γ emb z g a m L Q ds hds hκ h hI hQ;simp only at h;split at h
  . rename_i t;split at h
    . rename_i bT v hv;obtain⟨e1,e2⟩:=hI.slot hv;simp only[bP]at e2;split at h
      . simp only[bM,bc,and_true]at e2;exact wpIn_cond_true e2 (hx _ σ β κ γ emb z g a m L Q ds hds hκ h hI hQ)
      . simp only[bM,bc,and_true]at e2;exact wpIn_cond_false e2 (hy _ σ β κ γ emb z g a m L Q ds hds hκ h hI hQ)
      . rename_i b p d hbp;simp only[bM,bc,and_true]at e2;split at h
        . rename_i hp;have hb:=hbp.2 hp;subst hb;exact wpIn_cond_true e2 (hx _ _ β κ γ emb z g a m L Q ds hds hκ h (pC hI (by rw[e1,e2])) hQ)
        . rename_i hp;have hb:b=false:=by cases hb:b with|false=>rfl|true=>exact absurd (hbp.1 hb) hp
          subst hb;exact wpIn_cond_false e2 (hy _ _ β κ γ emb z g a m L Q ds hds hκ h (pC hI (by rw[e1,e2])) hQ)
      . simp only[bM]at e2;obtain⟨b,e2,_⟩:=e2;simp only[bc,and_true]at e2;obtain⟨h1,h2⟩:=KV h
        cases b with
        |true=>exact wpIn_cond_true e2 (hx _ _ β κ γ emb z g a m L Q ds hds hκ h1 (pC hI (by rw[e1,e2])) hQ)
        |false=>exact wpIn_cond_false e2 (hy _ _ β κ γ emb z g a m L Q ds hds hκ h2 (pC hI (by rw[e1,e2])) hQ)
      . simp only[bM]at e2;obtain⟨b,e2,hb⟩:=e2;simp only[bc,and_true]at e2
        cases b with
        |true=>exact wpIn_cond_true e2 (hx _ _ β κ γ emb z g a m L Q ds hds hκ h (pC hI (by rw[e1,e2])) hQ)
        |false=>exact absurd (hb (by simp)) (by simp)
      . simp only[bM]at e2;obtain⟨b,e2,hb⟩:=e2;simp only[bc,and_true]at e2
        cases b with
        |true=>exact absurd (hb (by simp)) (by simp)
        |false=>exact wpIn_cond_false e2 (hy _ _ β κ γ emb z g a m L Q ds hds hκ h (pC hI (by rw[e1,e2])) hQ)
      . cases h
    . cases h
  . exact wpIn_cond_true rfl (hx _ σ β κ γ emb z g a m L Q ds hds hκ h hI hQ)
  . exact wpIn_cond_false rfl (hy _ σ β κ γ emb z g a m L Q ds hds hκ h hI hQ)
  . cases h)
 |.block id body,hc,hg=>ue (by
  have hx:=oe hT hΦ hΨ hrr hD body hc hg;intro an σ β κ γ emb z g a m L Q ds hds hκ h hI hQ;refine wpIn_block (hx an.l1 σ β (kB id κ) γ emb z g a m L _ ds hds (XR hκ) h hI fun ex σ' g' a' m' L' ds' hds' k1 k2 k3 k4=>?_)
  cases ex with
  |normal=>exact hQ .normal σ' g' a' m' L' ds' hds' k1 k2 k3 k4
  |ret=>exact hQ .ret σ' g' a' m' L' ds' hds' k1 k2 k3 k4
  |exit k=>
   simp only[kB]at k1
   split at k1
   . rename_i he
     obtain rfl:=ah he
     exact aap (hQ .normal σ' g' a' m' L' ds' hds' k1 k2 k3 k4)
   . rename_i he
     exact aaq (Nat.ne_of_beq_eq_false he) (hQ (.exit k) σ' g' a' m' L' ds' hds' k1 k2 k3 k4))
 |.scope body,hc,hg=>ue (by
  have hx:=oe hT hΦ hΨ hrr hD body hc hg;intro an σ β κ γ emb z g a m L Q ds hds hκ h hI hQ;refine Xw (hx an.l1 σ β κ γ emb z g a m L _ ds hds hκ h hI fun ex σ' g' a' m' L' ds' hds' k1 k2 k3 k4=>?_);have:=hQ ex σ' g' a' m' L' ds' hds' k1 k2 k3 k4;cases ex<;>exact this)
 |.loop body,hc,hg=>by
  rw[yG];exact ue (by
   have hx:=oe hT hΦ hΨ hrr hD body hc hg;intro an σ β κ γ emb z g a m L Q ds hds hκ h hI hQ;simp only at h;split at h
   . rename_i J an';obtain⟨z0,hz0,h1⟩:=aa.1 h;refine Xv h1 (fun u a' w'=>∃ds',ds'.ok rr/\∀σ1,unpack tb (J.at_ (.loop body) σ.fb) σ u=some σ1->∃g1 m1 L1,m1.w=w'/\Le m m1/\GE g g1/\Inv K n ds' B m0 rb σ1 g1 a' m1 L1) ⟨ds,hds,fun σ1 h2=>?_⟩ ?_
     . exact uH hI hI (GE.refl g) (Le.refl m) hz0 h2
     . rintro k u x a' w' ⟨ds',hds',j2⟩ hx1 hn;split at hx1
       . rename_i σ1 h2;obtain⟨g1,m',L1,hw',j1,j3,j4⟩:=j2 σ1 h2;rw[<- hw'];refine hx an' σ1 (HT S J.ls⊕γ) (kJ tb (J.at_ (.loop body) σ.fb) σ κ emb) (HT S J.ls⊕γ) id x g1 a' m' L1 _ ds' hds' (Oa hκ) hx1 j4 fun ex σ' g' a2 m2 L2 ds2 hds2 k1 k2 k3 k4=>?_
         cases x with
         |inl u'=>
          obtain⟨rfl,k5⟩:=N9 (J:=J.at_ (.loop body) σ.fb) hκ k1
          refine wG (Ww (I:=(fun u a' w'=>∃ds',ds'.ok rr/\∀σ1,unpack tb (J.at_ (.loop body) σ.fb) σ u=some σ1->∃g1 m1 L1,m1.w=w'/\Le m m1/\GE g g1/\Inv K n ds' B m0 rb σ1 g1 a' m1 L1)) hn ⟨ds2,hds2,fun σ2 h3=>?_⟩)
          exact uH hI k4 (j3.trans k2) (j1.trans k3) k5 h3
         |inr r=>
          obtain⟨k5,k6⟩:=G4 (J:=J.at_ (.loop body) σ.fb) hκ k1
          have:r=z:=hn
          subst this
          exact OY k6 (hQ ex σ' g' a2 m2 L2 ds2 hds2 k5 (j3.trans k2) (j1.trans k3) k4)
       . cases hx1
   . split at h
     . rename_i rid ops c' out rest;split at h
       . rename_i it nx c hhd;split at h
         . rename_i hcc;obtain rfl:=ah hcc;have hc2:=hc;simp only[codeOk,al,Bool.not_false,Bool.true_or,and_true]at hc2;obtain⟨o1,o2,e0,_,e2,_,_,e5,_⟩:=SH hhd;rw[e0]at hc2;simp only[List.all_cons,I9,e2,e5,al]at hc2;exact abi hc2.1.1 hc2.1.2.1 hhd (oe hT hΦ hΨ hrr hD rest hc2.2.2 fun r hr=>hg r (ba _ (ba _ hr))) hds hκ h hI hQ
         . cases h
       . cases h
     . cases h
   . cases h)
 |.region id ops draw,hc,_=>by
  intro an σ β κ γ emb z g a m L Q ds hds hκ h hI hQ;refine ue (c:=.region id ops draw) (f:=fun _ σ _ κ γ emb=>pf tb tt Φ fa (!draw) ops ops.toList 0 σ [] fun σ' lg=>match !draw||(xJ ops lg&&gD (σ'.ob.map (·.1)))with
   |true=>κ γ emb .normal σ'
   |false=>none) (fun an σ β κ γ emb z g a m L Q ds hds hκ h hI hQ=>?_) an σ β κ γ emb z g a m L Q ds hds hκ h hI hQ
  cases draw with
  |true=>exact hD ds id ops γ (fun σ'=>κ γ emb .normal σ') z σ g a m L Q h hc hI fun σ' g' a' m' L' k1 k2 k3 k4=>hQ .normal σ' g' a' m' L' ds hds k1 k2 k3 k4
  |false=>
   simp only[codeOk,al]at hc
   exact El (xl hT hΦ hΨ h hc.1 hI fun σ' lg g' a' m' L' k1 k2 k3 k4=>hQ .normal σ' g' a' m' L' ds hds k1 k2 k3 k4)
 |.rangeFunc gop ps x y,_,hg=>ue fun an σ β κ γ emb z g a m L Q ds hds hκ h hI hQ=>by
  split at h
  . rename_i f caps hrd hfb hop;split at h
    . rename_i hf;obtain rfl:=hrr hrd;split at h
      . exact J7 hT hds hI hfb hop (aj hf) (hg (ps,x,y) aq) (K8 hΦ h) hQ
      . exact J7 hT hds hI hfb hop (aj hf) (hg (ps,x,y) aq) (uM hΨ h) hQ
    . cases h
  . cases h
 |.goto _,_,_=>fun an σ β κ γ emb z g a m L Q ds hds hκ h hI hQ=>by cases h
 |.refuse _,_,_=>fun an σ β κ γ emb z g a m L Q ds hds hκ h hI hQ=>by cases h
end
end E
end
section
open Go.RowKit G
namespace E
variable {S:Nat->Type}{tb:Tb S}{K:ep tb}{P:Program}{tt:TypeId->Option (TI S)}{Φ:List (dS S)}{fa:FA S}{g:GG S}{m:Mem}
theorem vK:∀{l:List (AV S)} {i t bT:Nat} {v:AV S},look t (sO i l)=some (bT,v)->bT=64+t/\i<=t/\l[t-i]?=some v
 |[],i,t,bT,v,h=>by cases h
 |a::l,i,t,bT,v,h=>by
  simp only[sO,bN]at h;by_cases e:i=t
  . subst e;rw[if_pos rfl]at h;cases h;exact⟨rfl,Nat.le_refl _,by simp⟩
  . rw[if_neg e]at h;obtain⟨h1,h2,h3⟩:=vK h;refine⟨h1,by omega,?_⟩;rw[show t-i=(t-(i+1))+1 by omega];simpa using h3
theorem Ck:∀{vs:List Value} {i t:Nat} {v:Value},i<=t->vs[t-i]?=some v->lk (wQ i vs) t=some v
 |[],i,t,v,_,h=>by simp at h
 |u::vs,i,t,v,hi,h=>by
  unfold wQ lk;by_cases e:i=t
  . subst e;simp at h;subst h;simp
  . rw[mT e];refine Ck (by omega) ?_;rw[show t-i=(t-(i+1))+1 by omega]at h;simpa using h
theorem Cm:∀{aS:List (AV S)} {us:List Value} {i:Nat} {v:AV S},db K g m aS us->aS[i]?=some v->∃u,us[i]?=some u/\bP K g m v u
 |[],us,i,v,_,h=>by simp at h
 |a::aS,us,i,v,hr,h=>by
  simp only[db]at hr;obtain⟨x,r,rfl,h1,h2⟩:=hr
  cases i with
  |zero=>simp at h;subst h;exact⟨x,rfl,h1⟩
  |succ i=>obtain⟨u,k1,k2⟩:=Cm h2 (by simpa using h);exact⟨u,by simpa using k1,k2⟩
theorem wR:∀{aS:List (AV S)} {us:List Value},db K g m aS us->us.length=aS.length
 |[],us,h=>by simp only[db]at h;subst h;rfl
 |a::aS,us,h=>by simp only[db]at h;obtain⟨x,r,rfl,h1,h2⟩:=h;simp[wR h2]
theorem zn{ids:Nat->Nat}:∀{l:List PS} {ds ds':List (ic S)} {aS:List (AV S)},PS.eS tb ids l ds=some (aS,ds')->aS.length=l.length
 |[],ds,ds',aS,h=>by simp only[PS.eS]at h;cases h;rfl
 |s::l,ds,ds',aS,h=>by
  simp only[PS.eS]at h;obtain⟨p,hp,h⟩:=aa.1 h;obtain⟨⟨q1,q2⟩,hq,h⟩:=ab.1 h;cases h;simp[zn hq]
theorem Dv{ids:Nat->Nat}:∀{l:List OS} {ds ds':List (ic S)} {aS:List (AO S)},OS.eS tb ids l ds=some (aS,ds')->aS.length=l.length
 |[],ds,ds',aS,h=>by simp only[OS.eS]at h;cases h;rfl
 |s::l,ds,ds',aS,h=>by
  simp only[OS.eS]at h;obtain⟨p,hp,h⟩:=aa.1 h;obtain⟨⟨q1,q2⟩,hq,h⟩:=ab.1 h;cases h;simp[Dv hq]
theorem Ga{ids:Nat->Nat}:∀{l:List (AO S)} {L:List bR} {o i:Nat} {a:AO S},KN K g m ids o l L->l[i]?=some a->∃e,L[i]?=some e/\iY K g m (ids (o+i)) a e
 |[],L,o,i,a,_,h=>by simp at h
 |x::l,L,o,i,a,hr,h=>by
  obtain⟨e,L',rfl,h1,h2⟩:=hr
  cases i with
  |zero=>simp at h;subst h;exact⟨e,rfl,h1⟩
  |succ i=>
   obtain⟨f,k1,k2⟩:=Ga h2 (by simpa using h)
   exact⟨f,by simpa using k1,by rw[show o+(i+1)=o+1+i by omega];exact k2⟩
theorem WL{q:Nat}{a:AO S}{e:bR}(h:iY K g m q a e):∃gh,g.bk q=some gh:=by
 cases a with
 |box T cs=>obtain⟨gh,b,vs,h1,_⟩:=h;exact⟨gh,h1⟩
 |row T c=>obtain⟨gh,h1,_⟩:=h;exact⟨gh,h1⟩
 |arr T c f l=>obtain⟨gh,cs,h1,_⟩:=h;exact⟨gh,h1⟩
 |loop r st tm=>obtain⟨gh,_,_,_,_,h1,_⟩:=h;exact⟨gh,h1⟩
 |map t kc vc l hole=>obtain⟨gh,_,_,_,h1,_⟩:=h;exact⟨gh,h1⟩
 |qE t et kc c l hole=>obtain⟨gh,_,_,_,_,h1,_⟩:=h;exact⟨gh,h1⟩
 |lD t kc vc l hole q=>obtain⟨gh,_,_,_,h1,_⟩:=h;exact⟨gh,h1⟩
 |sD kc o st=>obtain⟨gh,_,_,_,h1,_⟩:=h;exact⟨gh,h1⟩
 |EP t kc l=>obtain⟨gh,_,_,_,h1,_⟩:=h;exact⟨gh,h1⟩
theorem KN.mono{g':GG S}{m':Mem}{ids:Nat->Nat}(hg:GE g g')(hm:Le m m'):∀{l:List (AO S)} {L:List bR} {o:Nat},KN K g m ids o l L->KN K g' m' ids o l L
 |[],_,_,h=>h
 |_::_,_,_,⟨e,L',h1,h2,h3⟩=>⟨e,L',h1,h2.mono hg hm,KN.mono hg hm h3⟩
theorem yt{c:dS S}{x:HT S c.ls}{σ:AS S}{bk:Nat->Option Gh}{vals:List Value}{L:List bR}{n:Nat}{a:Act}(h:start tb c x=some σ)(hb:∀i,c.fm.length<=i->bk i=none)
 (AZ:∀ds args ds1 fm ds2,ni c.bk (qB c.ls x)=some ds->PS.eS tb id c.ins ds=some (args,ds1)->OS.eS tb id c.fm ds1=some (fm,ds2)->db K (Q3 bk) m args vals/\KN K (Q3 bk) m id 0 fm L) (hO:Ow m L) (hB:K.B m)
 (hn:c.ins.length<=190) (hK:Kn n a (wQ 0 vals)):∃g0,Inv K n ⟨[],[]⟩ (bK L) m bk σ g0 a m L/\(∀(i ver:Nat) ao,look i σ.ob=some (ver,ao)->∃e,L[i]?=some e/\g0.oo ver=some (ao,e)):=by
 unfold start at h
 obtain⟨ds,hds,h⟩:=aa.1 h
 obtain⟨⟨args,ds1⟩,hp,h⟩:=aa.1 h
 obtain⟨⟨fm,ds2⟩,hq,h⟩:=aa.1 h
 simp only[af]at h hq
 subst h
 obtain⟨hA,hL⟩:=AZ ds args ds1 fm ds2 hds hp hq
 have hlen:=wR hA
 rw[zn hp]at hlen
 have hol:=Dv hq
 have hLl:=Gb hL
 have hfew:=c.uB
 simp only[al]at hfew
 have hf1:=aj hfew.1
 let g0:GG S:={bk:=bk,vv:=fun i=>if 64<=i then vals[i-64]? else none,oo:=fun i=>match fm[i]?,L[i]? with|some a,some e=>some (a,e)|_,_=>none}
 have ge:GE (Q3 bk) g0:=⟨fun _ _ h=>h,fun i y hy=>(by cases hy),fun i y hy=>(by cases hy)⟩
 have hL':=KN.mono ge (Le.refl m) hL
 refine⟨g0,⟨hK.size,hK.defers,fun t bT v hs=>?_,fun s bT v hs=>?_,JQ hL' (fun i=>rfl) fun i b e hb' he=>?_,by rw[aW];exact St.refl hO,fun i hi=>⟨hb i ?_,?_,?_⟩,⟨hB,fun j q hj=>?_⟩⟩,fun i ver ao hi=>?_⟩
 . simp only[aL]at hs
   obtain⟨rfl,_,h2⟩:=vK hs
   obtain⟨u,h3,h4⟩:=Cm hA h2
   show(if _ then _ else _)=_
   rw[if_pos (by omega),show 64+t-64=t by omega]
   simp only[Nat.sub_zero]at h3
   rw[h3,hK.at_ t u (Ck (Nat.zero_le _) (by simpa using h3))]
 . obtain⟨rfl,_,h2⟩:=vK hs
   obtain⟨u,h3,h4⟩:=Cm hA h2
   refine⟨u,?_,h4.mono ge (Le.refl m)⟩
   show(if _ then _ else _)=_
   rw[if_pos (by omega),show 64+s-64=s by omega]
   simpa using h3
 . show(match fm[0+i]?,L[0+i]? with|some a,some e=>some (a,e)|_,_=>none)=_
   rw[aL,hb',he]
 . simp only at hi;omega
 . simp only at hi
   show(if _ then _ else _)=_
   rw[if_pos (by omega),List.getElem?_eq_none (by omega)]
 . simp only at hi
   show(match fm[i]?,L[i]? with|some a,some e=>some (a,e)|_,_=>none)=_
   rw[List.getElem?_eq_none (l:=fm) (by omega)]
 . simp only at hj
   have hj1:j<c.fm.length:=by
    have:=(List.getElem?_eq_some_iff.1 hj).1;simpa using this
   rw[List.getElem?_range hj1]at hj
   cases hj
   obtain⟨e,_,k2⟩:=Ga (i:=j) hL (List.getElem?_eq_getElem (by omega))
   obtain⟨gh,k3⟩:=WL k2
   have k4:bk j=some gh:=by rw[aL]at k3;exact k3
   exact⟨gh,k4,k4⟩
 . simp only at hi
   have key:∀(l:List (AO S)) (v i ver:Nat) ao,look i (JP v l)=some (ver,ao)->ver=i/\v<=i/\l[i-v]?=some ao:=fun l=>by
    induction l with
    |nil=>intro v i ver ao h;cases h
    |cons y l ih=>
     intro v i ver ao h
     simp only[JP,bN]at h
     by_cases e:v=i
     . rw[if_pos e]at h;cases h;exact⟨e,by omega,by subst e;simp⟩
     . rw[if_neg e]at h
       obtain⟨h1,h2,h3⟩:=ih _ _ _ _ h
       refine⟨h1,by omega,?_⟩
       rw[show i-v=(i-(v+1))+1 by omega];simpa using h3
   obtain⟨rfl,_,k3⟩:=key _ _ _ _ _ hi
   simp only[Nat.sub_zero]at k3
   obtain⟨e,k4,_⟩:=Ga hL k3
   exact⟨e,k4,by show(match fm[ver]?,L[ver]? with|some a,some e=>some (a,e)|_,_=>none)=_;rw[k3,k4]⟩
def tS:List ResultVar->List Operand
 |[]=>[]
 |.tmp t::l=>.tmp t::tS l
 |.cell t _::l=>.tmp t::tS l
section
variable {n:Nat}{ds:Cx}{B:List Nat}{m0:Mem}{rb:Nat->Option Gh}{σ:AS S}{a:Act}{L:List bR}
theorem wq(hT:dx P K tt)(hI:Inv K n ds B m0 rb σ g a m L){Kt:Kt}:∀{rs:List ResultVar} {vs:List (AV S)},(∀t,Operand.tmp t∈tS rs->lk Kt t=some (a.eval (.tmp t)))->pB tt σ rs=some vs->∃us,Cd P Kt m.w rs us/\db K g m vs us
 |[],vs,_,h=>by simp only[pB,af]at h;subst h;exact⟨[],.nil,by simp only[db]⟩
 |.tmp t::rs,vs,hk,h=>by
  simp only[pB]at h;obtain⟨⟨bT,v⟩,hv,h1⟩:=aa.1 h;obtain⟨r,hr,rfl⟩:=ab.1 h1;obtain⟨us,k1,k2⟩:=wq hT hI (fun t ht=>hk t (by simp[tS,ht])) hr;exact⟨_,.tmp (hk t (by simp[tS])) k1,by simp only[db];exact⟨_,_,rfl,(hI.slot hv).2,k2⟩⟩
 |.cell t ty::rs,vs,hk,h=>by
  simp only[pB]at h;obtain⟨⟨bT,v⟩,hv,h1⟩:=aa.1 h;simp only at h1;split at h1
  . rename_i o;obtain⟨⟨ver,ao⟩,hao,h2⟩:=aa.1 h1;simp only at h2;split at h2
    . rename_i T cs;obtain⟨i,hi,h3⟩:=aa.1 h2;obtain⟨w,hw,h4⟩:=aa.1 h3;obtain⟨r,hr,rfl⟩:=ab.1 h4;obtain⟨us,k1,k2⟩:=wq hT hI (fun t ht=>hk t (by simp[tS,ht])) hr;have hv2:=(hI.slot hv).2;simp only[bP,bM,bc,and_true]at hv2;obtain⟨gh,b,g1,g2,g3⟩:=hv2;obtain⟨z,hz1,hz2,hz3⟩:=py hI.ob;rw[<- hz1,nK]at hao;obtain⟨p,hp1,hp2⟩:=ab.1 hao;obtain⟨hp3,hp4⟩:=gC hp1;have hob:=(hz3 p hp3).2;rw[hp2,hp4]at hob;obtain⟨gh',b',ws,j1,j2,j3,j4⟩:=hob;rw[g1]at j1;cases j1;rw[g2]at j2;cases j2;have hmem:p.2∈L:=by rw[<- hz2];exact List.mem_map_of_mem hp3
      rw[j3]at hmem;have hok:=hI.st.ow.left.ok _ hmem;have hcell:∀k u,ws[k]?=some u->m.w.cell? ⟨b,k,none⟩=some u:=fun k u hu=>by
       rw[cell_of_row _ _ _ _ _ _ hok];simpa using hu
      have hag:=(hT.ty ty i hi).agg;have hkp:=hk t (by simp[tS]);rw[g3]at hkp;split at hw
      . rename_i hA;obtain⟨l,hl,rfl⟩:=ab.1 hw;obtain⟨q1,q2⟩:=tf hl j4;refine⟨.agg (ws.take i.size).toArray::us,.agg (o:=0) (by rw[hag,hA,aM,Nat.min_eq_left q2]) hkp (fun k u hu=>?_) k1,?_⟩
        . rw[aL];refine hcell k u ?_;rw[List.getElem?_take]at hu;split at hu
          . exact hu
          . cases hu
        . simp only[db,bP];exact⟨_,_,rfl,⟨_,rfl,q1⟩,k2⟩
      . rename_i hA;obtain⟨u,hu,rfl⟩:=ab.1 hw;obtain⟨x,q1,q2⟩:=w8 hu j4;refine⟨x::us,.one (by rw[hag,hA]) hkp (hcell 0 x q1) k1,?_⟩;simp only[db,bP];exact⟨_,_,rfl,q2,k2⟩
    . cases h2
  . cases h1
theorem Qt{vs:List (AV S)}{us:List Value}(h:db K g m vs us):bP K g m (DF vs) (A4 us):=by
 match vs,h with
 |[],h=>simp only[db]at h;subst h;simp only[DF,A4,bP];exact⟨[],rfl,by simp only[db]⟩
 |[v],h=>
  simp only[db]at h
  obtain⟨x,r,rfl,h1,rfl⟩:=h
  exact h1
 |v::w::vs,h=>
  have h':=h
  simp only[db]at h
  obtain⟨x,r,rfl,h1,y,r',rfl,h2⟩:=h
  simp only[DF,A4,bP]
  exact⟨_,rfl,h'⟩
theorem lH{ob:List (Nat×Nat×AO S)}:∀{l:List KS} {mp mp':List (Nat×Nat)} {o:Nat} {ds:List (ic S)},OS.hU tb ob mp o l=some (ds,mp')->Sub mp mp'/\(jr mp->jr mp')
 |[],mp,mp',o,ds,h=>by
  simp only[OS.hU,af,aA]at h;obtain⟨_,rfl⟩:=h;exact⟨Sub.refl _,id⟩
 |.now s::l,mp,mp',o,ds,h=>by
  simp only[OS.hU]at h;obtain⟨q,hq,h⟩:=aa.1 h;obtain⟨a,ha,h⟩:=aa.1 h;obtain⟨p,hp,h⟩:=aa.1 h;obtain⟨r,hr,h⟩:=ab.1 h;obtain⟨rd,rm⟩:=r;simp only[aA]at h;obtain⟨_,rfl⟩:=h;obtain⟨a1,a2⟩:=OS.ke hp;obtain⟨b1,b2⟩:=lH hr;exact⟨a1.trans b1,fun hM=>b2 (a2 hM)⟩
 |.kept::l,mp,mp',o,ds,h=>lH (l:=l) (by simpa only[OS.hU]using h)
 |.gone::l,mp,mp',o,ds,h=>lH (l:=l) (by simpa only[OS.hU]using h)
theorem pA{ob:List (Nat×Nat×AO S)}:∀{l:List KS} {mp mp' mp1:List (Nat×Nat)} {o:Nat} {ds:List (ic S)} {Ln:List bR},OS.hU tb ob mp o l=some (ds,mp')->Sub mp' mp1->eW K g m (pick ob (kH mp1 o l)) Ln->
 ∀(g':GG S) (ids:Nat->Nat) (r:List (Nat×AO S)),Ren mp1 g g' ids->OS.outs tb ids o l ds=some r->B6 K g' m r Ln
 |[],mp,mp',mp1,o,ds,Ln,h,hS,hL,g',ids,r,hR,hf=>by
  simp only[OS.hU,af,aA]at h;obtain⟨rfl,_⟩:=h;simp only[OS.outs,af]at hf;subst hf;exact hL
 |.kept::l,mp,mp',mp1,o,ds,Ln,h,hS,hL,g',ids,r,hR,hf=>
  pA (l:=l) (by simpa only[OS.hU]using h) hS (by simpa only[kH]using hL) g' ids r hR (by simpa only[OS.outs]using hf)
 |.gone::l,mp,mp',mp1,o,ds,Ln,h,hS,hL,g',ids,r,hR,hf=>
  pA (l:=l) (by simpa only[OS.hU]using h) hS (by simpa only[kH]using hL) g' ids r hR (by simpa only[OS.outs]using hf)
 |.now s::l,mp,mp',mp1,o,ds,Ln,h,hS,hL,g',ids,r,hR,hf=>by
  simp only[OS.hU]at h;obtain⟨q,hq,h⟩:=aa.1 h;obtain⟨a,ha,h⟩:=aa.1 h;obtain⟨p,hp,h⟩:=aa.1 h;obtain⟨r1,hr,h⟩:=ab.1 h;obtain⟨pd,pm⟩:=p;obtain⟨rd,rm⟩:=r1;simp only[aA]at h;obtain⟨rfl,rfl⟩:=h;have a1:=(OS.ke hp).1;have b1:=(lH hr).1;have hq1:look o mp1=some q:=hS _ _ (b1 _ _ (a1 _ _ hq));simp only[kH,hq1,pick,ha,eW]at hL;obtain⟨e,L',rfl,h1,h2,h3⟩:=hL;obtain⟨_,_,a3⟩:=OS.lL hp h2;simp only[OS.outs]at hf;obtain⟨p1,hp1,hf1⟩:=aa.1 hf;obtain⟨q1,hq1',hf2⟩:=ab.1 hf1;obtain⟨w1,r1⟩:=p1;clear hf hf1;obtain⟨rfl,k2⟩:=a3 g' ids (ids o) _ _ _ (hR.sub (b1.trans hS)) (fun gh hgh=>hR _ _ _ hq1 hgh) hp1;subst hf2;exact⟨e,L',rfl,k2,pA hr hS h3 g' ids _ hR hq1'⟩
end
theorem Fu:∀l:List KS,oy l []=[]
 |[]=>rfl
 |.kept::_=>rfl
 |.now _::_=>rfl
 |.gone::_=>rfl
theorem Dd{l:List KS}{L:List bR}{o:Nat}{s:KS}(hs:s.isK=false):oy (s::l) (L.drop o)=oy l (L.drop (o+1)):=by
 by_cases h:o<L.length
 . rw[List.drop_eq_getElem_cons h];cases s<;>first|(cases hs;done)|rfl
 . rw[List.drop_of_length_le (by omega),List.drop_of_length_le (by omega),Fu,Fu]
theorem xE{z:ZL S}{L:List bR}:∀{l:List KS} {o:Nat},(∀i∈jg o l,∃p,pr z i=some p/\L[i]?=some p.2)->oy l (L.drop o)=(eh z (jg o l)).map Prod.snd
 |[],o,_=>by simp[oy,jg,eh]
 |.kept::l,o,h=>by
  obtain⟨p,h1,h2⟩:=h o (by simp[jg]);have ih:=xE (l:=l) (o:=o+1) fun i hi=>h i (by simp[jg,hi])
  have hlt:o<L.length:=(List.getElem?_eq_some_iff.1 h2).1;have he:L[o]=p.2:=by rw[List.getElem?_eq_getElem hlt]at h2;exact ax h2
  rw[List.drop_eq_getElem_cons hlt,he];simp only[oy,jg,eh,List.filterMap_cons,h1,aF];rw[ih];rfl
 |.now s::l,o,h=>by
  rw[Dd rfl];exact xE (l:=l) (o:=o+1) h
 |.gone::l,o,h=>by
  rw[Dd rfl];exact xE (l:=l) (o:=o+1) h
theorem rJ{σ0 σ:AS S}:∀{l:List KS} {o:Nat},Df σ0 σ o l=true->∀i∈jg o l,∃ver a0 a1,look i σ0.ob=some (ver,a0)/\look i σ.ob=some (ver,a1)
 |[],o,_,i,hi=>by cases hi
 |.kept::l,o,h,i,hi=>by
  simp only[Df,al]at h;simp only[jg,aB]at hi;rcases hi with rfl|hi
  . have h1:=h.1.2;split at h1
    . rename_i x y hx hy;obtain⟨x1,x2⟩:=x;obtain⟨y1,y2⟩:=y;have:=ah h1;simp only at this;subst this;exact⟨x1,x2,y2,hx,hy⟩
    . cases h1
  . exact rJ h.2 i hi
 |.now _::l,o,h,i,hi=>rJ (l:=l) (o:=o+1) h i hi
 |.gone::l,o,h,i,hi=>rJ (l:=l) (o:=o+1) h i hi
theorem DY:∀{l:List Nat} {j i q:Nat},j<=i->l[i-j]?=some q->look i (OI j l)=some q
 |[],j,i,q,_,h=>by simp at h
 |x::l,j,i,q,hj,h=>by
  simp only[OI,bN];by_cases e:j=i
  . subst e;rw[if_pos rfl];simpa using h
  . rw[if_neg e];refine DY (by omega) ?_;rw[show i-j=(i-(j+1))+1 by omega]at h;simpa using h
theorem eY{n:Nat}{ds:Cx}{m0:Mem}{σ:AS S}{a:Act}{c:dS S}{y:jo S c.outs}{σ0:AS S}{g0:GG S}{bk:Nat->Option Gh}{L L1:List bR}{v:AV S}{u:Value}(hX:ds.X=[])(hI:Inv K n ds (bK L) m0 bk σ g a m L1)(hge:GE g0 g)(hob0:∀(i ver:Nat) ao,look i σ0.ob=some (ver,ao)->∃e,L[i]?=some e/\g0.oo ver=some (ao,e))
 (r3:bP K g m v u) (hfin:cl tb c.fm.length v σ0 σ c.outs=some y):∃L2,St (bK L) m0 m L2/\b6 K c bk L y u m L2:=by
 have key:∃L2,Cg c.outs y fun o z=>St (bK L) m0 m L2/\Na K c.fm.length o bk L z u m L2:=AH (xx hfin) fun o z ho h1=>by
  unfold finish at h1;obtain⟨⟨pd,mp1⟩,hp,h2⟩:=aa.1 h1;obtain⟨⟨qd,mp2⟩,hq,h3⟩:=aa.1 h2;simp only at h3 hq;split at h3
  case h_2=>cases h3
  case h_1 hc=>
  obtain⟨dd,hdd,hof⟩:=aa.1 h3;simp only[al]at hc;obtain⟨c1,⟨c2,c3⟩,c4⟩:=hc;have c3:=ah c3;obtain⟨s1,s2,s3⟩:=PS.lL hp r3;obtain⟨t1,t2⟩:=lH hq;obtain⟨z1,hz1,hz2,hz3⟩:=py hI.ob;obtain⟨Y,hY⟩:=me (z:=z1) (iR c2);have hkeep:oy o.gu L=(eh z1 (jg 0 o.gu)).map Prod.snd:=by
   have:=xE (z:=z1) (L:=L) (l:=o.gu) (o:=0) fun i hi=>by
    obtain⟨ver,a0,a1,k1,k2⟩:=rJ c1 i hi;obtain⟨e,k3,k4⟩:=hob0 i ver a0 k1;rw[<- hz1,nK]at k2;obtain⟨p,hp1,hp2⟩:=ab.1 k2;refine⟨p,hp1,?_⟩;have e1:=(hz3 p (gC hp1).1).1;rw[hp2]at e1;simp only at e1;rw[hge.oo _ _ k4]at e1;have:=ax e1;rw[k3,(Prod.mk.inj this).2]
   simpa using this
  have hLn':eW K g m (pick σ.ob (kH mp2 0 o.gu)) ((eh z1 (kH mp2 0 o.gu)).map Prod.snd):=by
   rw[<- hz1,<- mc];exact nF fun p hp=>by
    obtain⟨q,_,hq⟩:=List.mem_filterMap.1 hp;exact hz3 p (gC hq).1
  have hSt:St (bK L) m0 m (oy o.gu L++(eh z1 (kH mp2 0 o.gu)).map Prod.snd):=by
   have h1:List.Perm L1 ((oy o.gu L++(eh z1 (kH mp2 0 o.gu)).map Prod.snd)++Y.map Prod.snd):=by
    rw[<- hz2,hkeep,<- bB,<- bB];refine List.Perm.map _ ?_;have:eh z1 (jg 0 o.gu)++eh z1 (kH mp2 0 o.gu)=eh z1 (jg 0 o.gu++kH mp2 0 o.gu):=by
     simp only[eh,List.filterMap_append]
    rw[this];exact hY
   have h0:=hI.st;rw[hX,aW]at h0;exact(h0.perm h1).ox
  have hkey:∀i q,look i mp2=some q->i<o.gu.length:=fun i q ho=>
   aj (aE.1 c4 _ (gl ho))
  refine⟨_,hSt,fun i=>if i<o.gu.length then(look i mp2).bind g.bk else none,(eh z1 (kH mp2 0 o.gu)).map Prod.snd,rfl,fun i hi=>?_,fun i hi=>if_neg (by omega),fun gx ids ds out ds1 l hR hds hout houts=>?_⟩
  . obtain⟨q,hq'⟩:∃q,σ.rt[i]?=some q:=⟨_,List.getElem?_eq_getElem (by omega)⟩;have hl:look i mp2=some q:=t1 _ _ (s1 _ _ (DY (Nat.zero_le _) (by simpa using hq')));obtain⟨h,k1,k2⟩:=hI.rt.2 i q hq';show(if _ then _ else _)=_;rw[if_pos (hkey _ _ hl),hl,k1];exact k2
  . have hRen:Ren mp2 g gx ids:=fun i q h ho hbk'=>hR i h (by
     show(if _ then _ else _)=_;rw[if_pos (hkey _ _ ho),ho];exact hbk')
    rw[CL hof]at hds;have:=uS o.acp hdd hds;subst this;obtain⟨rfl,j2⟩:=s3 _ _ _ _ _ (hRen.sub t1) hout;exact⟨j2,pA hq (Sub.refl _) hLn' gx ids l hRen houts⟩
 obtain⟨L2,h⟩:=key
 obtain⟨o,z,_,h1,_⟩:=Gf h
 exact⟨L2,h1.1,E3 h fun o z _ hp=>hp.2⟩
theorem P3(hT:dx P K tt)(hΦ:∀c∈Φ,Sound P K c)(hΨ:∀c∈fa.nd,mS P K c)(hD:∀n B m0 rb ds,F9 P K tt Φ fa n B m0 rb none ds){c:dS S}{fn:Func}{body:Code}{rs:List ResultVar}{an:An}(hf:P.funcs[c.f]?=some fn)(hb:fn.body=some body)(hrs:fn.results=rs.toArray)(hen:Enters P c.f)(hcf:c.f<=999999)
 (hok:codeOk fn.ntmps body=true) (hrg:Yg K fa.fn fn.ntmps body) (hsz:(Nat.ble c.ins.length 190&&Nat.ble c.ins.length fn.ntmps)=true) (hev:∀x,evF tb tt Φ fa c rs body an x=c.uU x):Sound P K c:=by
 simp only[al]at hsz
 have hsz1:=aj hsz.1
 have hsz2:=aj hsz.2
 refine⟨fun x y bk m vals L hsem hbk AZ hLn hO hB=>?_⟩
 unfold sy
 rw[if_pos hcf]
 refine⟨hen,?_⟩
 show Spec P c.f vals.toArray m L (b6 K c bk L y)
 rw[<- hev x]at hsem
 unfold evF at hsem
 split at hsem
 case h_2=>cases hsem
 case h_1 σ0 hst=>
 have hvl:vals.length=c.ins.length:=by
  have h:=hst;unfold start at h;obtain⟨ds,hds,h⟩:=aa.1 h;obtain⟨⟨args,ds1⟩,hp,h⟩:=aa.1 h;obtain⟨⟨fm,ds2⟩,hq,h⟩:=aa.1 h;rw[wR (AZ ds args ds1 fm ds2 hds hp hq).1,zn hp]
 refine enter fn.ntmps hf hb rfl (by omega) fun a hK=>?_
 obtain⟨g0,hI0,hob0⟩:=yt hst hbk AZ hO hB hsz1 hK
 have hI1:Inv K fn.ntmps ⟨Q1 [],[.defs []]⟩ (bK L) m bk σ0 g0 a m L:=hI0.aaj rfl hK.defers (by
  have:=hI0.st;rw[aW]at this;exact this.aaA.perm (aK (l₁:=[bR.defs []]) (l₂:=L)))
 refine oe (rr:=none) hT hΦ hΨ (fun _=>rfl) (hD _ _ _ _) body hok hrg an σ0 (jo S c.outs) _ (jo S c.outs) id y g0 a m L _ ⟨Q1 [],[.defs []]⟩ ⟨[],rfl⟩ ?_ hsem hI1 fun ex σ' g' a' m' L' ds' hds' hk hge hle hI=>?_
 . intro δ δ' ψ hψ e ex σ'
   cases ex with
   |exit k=>rfl
   |normal=>exact dn fun σp=>dn fun vs=>dn fun z=>rfl
   |ret=>exact dn fun σp=>dn fun vs=>dn fun z=>rfl
 . obtain⟨Ds,rfl⟩:=hds'
   have fin:∀σp vs,EW fa.pre σ'=some σp->pB tt σp rs=some vs->cl tb c.fm.length (DF vs) σ0 σp c.outs=some y->C5 P fn m L (b6 K c bk L y) .ret a' m'.w:=fun σp vs hpre hvs hfin=>by
    have hKn:Kn fn.ntmps a' (SQ a' (tS rs)) (Q1 Ds):=⟨hI.size,hI.defers,da a' _⟩;refine Qw L'.length hKn hI.st (by simp) fun m1 hle1 hS1 a2 hK2=>?_
    have he:(L'++[bR.defs Ds]).eraseIdx L'.length=L':=by
     rw[List.eraseIdx_append_of_length_le (Nat.le_refl _)];simp
    rw[he]at hS1;have hI2:Inv K fn.ntmps ⟨a'.defers,[]⟩ (bK L) m bk σ' g' a' m1 L':=⟨hI.size,rfl,hI.at_,fun s bT v h=>(let⟨u,k1,k2⟩:=hI.tm s bT v h;⟨u,k1,k2.mono (GE.refl _) hle1⟩),hI.ob.mono (GE.refl _) hle1,by rw[aW];exact hS1,hI.fresh,hI.rt⟩;obtain⟨gp,mp,Lp,hw,_,hgp,hIp⟩:=yd hI2 hpre;rw[<- hw];obtain⟨us,r1,r2⟩:=wq (Kt:=SQ a' (tS rs)) hT hIp (fun t ht=>zC a' (tS rs) t ht) hvs;obtain⟨L2,hSt,hP⟩:=eY rfl hIp (hge.trans hgp) hob0 (Qt r2) hfin;exact ZI (K:=SQ a' (tS rs)) rs us hrs hK2 r1 hSt hP
   cases ex with
   |exit k=>cases hk
   |ret=>
    obtain⟨σp,h0,hk⟩:=aa.1 hk
    obtain⟨vs,h1,h2⟩:=aa.1 hk
    obtain⟨w,h3,h4⟩:=aa.1 h2
    have:=ax h4
    simp only[id]at this
    subst this
    exact fin σp vs h0 h1 h3
   |normal=>
    obtain⟨σp,h0,hk⟩:=aa.1 hk
    obtain⟨vs,h1,h2⟩:=aa.1 hk
    obtain⟨w,h3,h4⟩:=aa.1 h2
    have:=ax h4
    simp only[id]at this
    subst this
    exact fin σp vs h0 h1 h3
end E
end
section
open Go.RowKit G
namespace E
variable {S:Nat->Type}{tb:Tb S}{K:ep tb}{P:Program}{tt:TypeId->Option (TI S)}{Φ:List (dS S)}{fa:FA S}{g:GG S}{m:Mem}
theorem FU:∀{l:List (Nat×Nat×AV S)} {v0 t bT:Nat} {v:AV S},look t (TG v0 l)=some (bT,v)->∃(i:Nat) (old:Nat),l[i]?=some (t,old,v)/\bT=v0+i/\look t l=some (old,v)
 |[],_,_,_,_,h=>by cases h
 |(u,w,x)::l,v0,t,bT,v,h=>by
  simp only[TG,bN]at h;by_cases e:u=t
  . subst e;rw[if_pos rfl]at h;cases h;exact⟨0,w,rfl,rfl,by rw[bN,if_pos rfl]⟩
  . rw[if_neg e]at h;obtain⟨i,old,h1,h2,h3⟩:=FU h;exact⟨i+1,old,by simpa using h1,by omega,by rw[bN,if_neg e];exact h3⟩
theorem xB{a:Array Value}{p t:Nat}{u:Value}(hp:p<a.size):(a.setIfInBounds p u).getD t undef=if p=t then u else a.getD t undef:=by
 simp only[Array.getD_eq_getD_getElem?,Array.getElem?_setIfInBounds];by_cases e:p=t
 . subst e;simp[hp]
 . simp[e]
def KO(K:ep tb)(g:GG S)(m:Mem)(tmps:Array Value)(tm:List (Nat×Nat×AV S)):Prop:=∀t bT v,look t tm=some (bT,v)->g.vv bT=some (tmps.getD t undef)/\bP K g m v (tmps.getD t undef)
def Iv(K:ep tb)(g:GG S)(m:Mem):List (Nat×Nat×AV S)->List Value->Prop
 |[],us=>us=[]
 |x::l,us=>∃u us',us=u::us'/\g.vv x.2.1=some u/\bP K g m x.2.2 u/\Iv K g m l us'
theorem J4{n:Nat}:∀{ps:List Nat} {l:List (Nat×Nat×AV S)} {us:List Value} {tm tm':List (Nat×Nat×AV S)} {tmps:Array Value},DQ ps l tm=some tm'->Iv K g m l us->(∀p∈ps,p<n)->tmps.size=n->KO K g m tmps tm->
 us.length=ps.length/\((ps.zip us).foldl (fun t (p,v)=>t.setIfInBounds p v) tmps).size=n/\KO K g m ((ps.zip us).foldl (fun t (p,v)=>t.setIfInBounds p v) tmps) tm'
 |[],[],us,tm,tm',tmps,h,ha,_,hn,hs=>by
  simp only[DQ,af]at h;subst h;simp only[Iv]at ha;subst ha;exact⟨rfl,hn,hs⟩
 |[],_::_,us,tm,tm',tmps,h,_,_,_,_=>by simp[DQ]at h
 |_::_,[],us,tm,tm',tmps,h,_,_,_,_=>by simp[DQ]at h
 |p::ps,(_,bT,v)::l,us,tm,tm',tmps,h,ha,hp,hn,hs=>by
  simp only[DQ]at h;obtain⟨u,us',rfl,h1,h2,h3⟩:=ha;have hpn:=hp p aq;obtain⟨k1,k2,k3⟩:=J4 (tmps:=tmps.setIfInBounds p u) h h3 (fun q hq=>hp q (au _ hq)) (by simpa using hn) (fun t vid' v' hl=>by
   rw[xB (by omega)];rw[bN]at hl;by_cases e:p=t
   . rw[if_pos e]at hl ⊢; cases hl;exact⟨h1,h2⟩
   . rw[if_neg e]at hl ⊢;rw[iz (Ne.symm e)]at hl;exact hs t vid' v' hl)
  exact⟨by simp[k1],by simpa using k2,by simpa using k3⟩
theorem IU:∀{aS:List (AV S)} {us:List Value} {i:Nat},db K g m aS us->(∀(k:Nat) u,us[k]?=some u->g.vv (64+i+k)=some u)->Iv K g m (sO i aS) us
 |[],us,i,h,_=>by simp only[db]at h;subst h;rfl
 |a::aS,us,i,h,hv=>by
  simp only[db]at h;obtain⟨x,r,rfl,h1,h2⟩:=h;exact⟨x,r,rfl,by have:=hv 0 x rfl;simpa using this,h1,IU h2 fun k u hk=>by have:=hv (k+1) u (by simpa using hk);rw[<- this];congr 1;omega⟩
theorem E4:∀{aS:List (AV S)} {i k:Nat} {v:AV S},aS[k]?=some v->look (i+k) (sO i aS)=some (64+(i+k),v)
 |[],i,k,v,h=>by simp at h
 |a::aS,i,0,v,h=>by simp at h;subst h;simp[sO,bN]
 |a::aS,i,k+1,v,h=>by
  simp only[sO,bN];rw[if_neg (by omega),show i+(k+1)=i+1+k by omega];exact E4 (by simpa using h)
section
variable {n:Nat}{ds:Cx}{B:List Nat}{m0:Mem}{rb:Nat->Option Gh}{σ σ':AS S}{a:Act}{L:List bR}
theorem FE{s0 s1:LS}{gh0:Gh}{l:Nat}(hI:Inv K n ds B m0 rb σ g a m L)(hrb:rb 0=some gh0)(hl:gh0.g=some l)(h:Dn s0 s1 σ=some σ'):
 ∃(R:LoopState->Option Code->Loop) (rg:RG) (tmps:Array Value) (L0 L0' Rst:List bR),E1 R rg.ps.toArray tmps rg.fC rg.body/\List.Perm (L++ds.X) (.obj l (.loop (R (zE s0) (ER s0)))::(L0++ds.X++Rst))/\
  ∀m1,Le m m1->St B m0 m1 (.obj l (.loop (R (zE s1) (ER s1)))::(L0++ds.X++Rst))->∃g1,GE g g1/\Inv K n ds B m0 rb σ' g1 a m1 (.obj l (.loop (R (zE s1) (ER s1)))::L0'):=by
 unfold Dn at h
 obtain⟨q,hq,h1⟩:=aa.1 h
 clear h
 obtain⟨⟨ver,ao⟩,hlk,h2⟩:=aa.1 h1
 clear h1
 simp only at h2
 split at h2
 case h_2=>cases h2
 case h_1 r st1 tm=>
 split at h2
 case h_2=>cases h2
 case h_1 hs=>
 obtain rfl:=LS.OO hs
 have h3:=ax h2
 subst h3
 obtain⟨gh1,e1,e2⟩:=hI.rt.2 0 q hq
 rw[hrb]at e1
 cases e1
 obtain⟨e,L0,Rst,ho,hp,hob⟩:=nv (X:=[]) hI.ob hlk
 obtain⟨gh,l',R,rg,tmps,o1,o2,o3,rfl,o5,o6,o7⟩:=ho
 rw[e2]at o1
 cases o1
 rw[hl]at o2
 cases o2
 refine⟨R,rg,tmps,L0,L0,Rst,o5,?_,fun m1 hle hS=>?_⟩
 . refine(hp.append_right _).trans ?_
   rw[aV,az,az]
   exact List.Perm.cons _ (aY _ aK)
 . let e1:bR:=.obj l (.loop (R (zE s1) (ER s1)))
   let g1:GG S:={g with oo:=fun i=>if i=σ.ct+32 then some (.loop r s1 tm,e1)else g.oo i}
   have ge:GE g g1:=⟨fun _ _ h=>h,fun _ _ h=>h,fun i y hy=>by
    show(if i=σ.ct+32 then _ else g.oo i)=_;rw[if_neg fun e'=>by rw[e',(hI.fresh _ (by omega)).2.2]at hy;cases hy];exact hy⟩
   refine⟨g1,ge,hI.size,hI.defers,hI.at_,fun s bT v h=>(let⟨u,k1,k2⟩:=hI.tm s bT v h;⟨u,k1,k2.mono ge hle⟩),⟨e1,L0,rfl,if_pos rfl,⟨gh0,l,R,rg,tmps,e2,hl,o3,rfl,o5,o6,fun t bT v h=>(o7 t bT v h).mono ge hle⟩,hob.mono ge hle⟩,?_,fun i hi=>⟨?_,?_,?_⟩,⟨hI.rt.1,fun j q hj=>?_⟩⟩
   . have:=(St.ox (L:=.obj l (.loop (R (zE s1) (ER s1)))::(L0++ds.X)) (R:=Rst) (by simpa using hS))
     simpa using this
   . have hi:σ.ct+64<=i:=hi
     exact(hI.fresh i (by omega)).1
   . have hi:σ.ct+64<=i:=hi
     exact(hI.fresh i (by omega)).2.1
   . have hi:σ.ct+64<=i:=hi
     show(if i=σ.ct+32 then _ else g.oo i)=_
     rw[if_neg (by omega)];exact(hI.fresh i (by omega)).2.2
   . exact hI.rt.2 j q hj
end
theorem P5(hT:dx P K tt)(hΦ:∀c∈Φ,Sound P K c)(hΨ:∀c∈fa.nd,mS P K c)(hD:∀n B m0 rb rr ds,F9 P K tt Φ fa n B m0 rb rr ds){c:dS S}{r n:Nat}{ps:List Nat}{aS body:Code}{an:An}(hcf:c.f=Z4 r)(hrd:fa.rd=true)(hrg:K.rg r=some ⟨ps,aS,body,n⟩)
 (hps:(ps.all fun p=>Nat.ble (p+1) n)=true) (hoa:codeOk n aS=true) (hob:codeOk n body=true) (hra:dI aS=[]) (hrb:dI body=[]) (hsz:Nat.ble c.ins.length 190=true) (hev:∀x,evY tb tt Φ fa c r ps aS body an x=c.uU x):Sound P K c:=by
 refine⟨fun x y bk m vals L hsem hbk AZ hLn hO hB=>?_⟩
 unfold sy
 rw[if_neg (by rw[hcf];exact Nat.not_le.2 (show 999999<1000000+r from by omega))]
 rw[<- hev x]at hsem
 unfold evY at hsem
 split at hsem
 case h_2=>cases hsem
 case h_1 σ0 hst=>
 split at hsem
 case h_2=>cases hsem
 case h_1 σ1 hst1=>
 have hkn:=Jy (fn:={(default:Func)with ntmps:=vals.length}) vals.length rfl (Nat.le_refl _)
 obtain⟨g0,hI0,hob0⟩:=yt (n:=vals.length) hst hbk AZ hO hB (aj hsz) hkn
 unfold start at hst
 obtain⟨ds,hds,hst⟩:=aa.1 hst
 obtain⟨⟨args,dr1⟩,hp,hst⟩:=aa.1 hst
 obtain⟨⟨fm,dr2⟩,hq,hst⟩:=aa.1 hst
 simp only at hq
 obtain⟨hA,_⟩:=AZ ds args dr1 fm dr2 hds hp hq
 have hst:=ax hst
 unfold Uo at hst1
 split at hst1
 case h_2=>cases hst1
 case h_1 ver r' tm s0 vid0 lrest hlk htm=>
 split at hst1
 case h_2=>cases hst1
 case h_1 hchk=>
 simp only[al]at hchk
 obtain rfl:=ah hchk.1
 have htl:=aj hchk.2
 obtain⟨tm',htm',hσ1⟩:=ab.1 hst1
 have hct:σ0.ct=256:=by rw[<- hst]
 have hfb:σ0.fb=0:=by rw[<- hst]
 have hrt:σ0.rt=List.range c.fm.length:=by rw[<- hst]
 have htm0:σ0.tm=sO 0 args:=by rw[<- hst]
 rw[htm0]at htm
 cases args with
 |nil=>cases htm
 |cons av as1=>
 simp only[sO,bc,aA]at htm
 obtain⟨⟨_,_,rfl⟩,rfl⟩:=htm
 simp only[db]at hA
 obtain⟨v0,us,rfl,ha1,ha2⟩:=hA
 simp only[bP,bM,bc,and_true]at ha1
 obtain⟨gh,l,hb0,hgl,rfl⟩:=ha1
 have hb0:bk 0=some gh:=hb0
 have hbg:∀i x,bk i=some x->g0.bk i=some x:=fun i x hx=>by
  have hi:i<c.fm.length:=Nat.lt_of_not_le fun h=>by rw[hbk i h]at hx;cases hx
  obtain⟨h,h1,h2⟩:=hI0.rt.2 i i (by rw[hrt,List.getElem?_range hi]);rw[hx]at h1;cases h1;exact h2
 obtain⟨e,L0,Rst,ho,hperm,_⟩:=nv (X:=[]) hI0.ob hlk
 obtain⟨gh',l',R,rg,tmps,o1,o2,o3,rfl,o5,o6,o7⟩:=ho
 rw[hbg _ _ hb0]at o1
 cases o1
 rw[hgl]at o2
 cases o2
 rw[hrg]at o3
 cases o3
 simp only at o5 o6
 have hfr:=hI0.fresh
 rw[hct]at hfr
 let g1:GG S:={bk:=g0.bk,vv:=fun j=>if 300<=j then(tm[j-300]?).map (fun x=>tmps.getD x.1 undef)else g0.vv j,oo:=g0.oo}
 have ge1:GE g0 g1:=⟨fun _ _ h=>h,fun i x hx=>by
  show(if _ then _ else _)=_;rw[if_neg fun h=>by rw[(hfr i (by omega)).2.1]at hx;cases hx];exact hx,fun _ _ h=>h⟩
 have hsl:KO K g1 m tmps (TG 300 tm):=fun t bT v hl=>by
  obtain⟨i,old,h1,rfl,h3⟩:=FU hl;refine⟨?_,(o7 t old v h3).mono ge1 (Le.refl m)⟩;show(if _ then _ else _)=_;rw[if_pos (by omega),show 300+i-300=i by omega,h1];rfl
 have hargs:Iv K g1 m (sO 1 as1) us:=IU ((db.mono (g':=g0) ⟨fun i x hx=>hbg i x hx,fun i x hx=>(by cases hx),fun i x hx=>(by cases hx)⟩ (Le.refl m) ha2).mono ge1 (Le.refl m)) fun k u hk=>by
  obtain⟨v,hv⟩:∃v,as1[k]?=some v:=⟨_,List.getElem?_eq_getElem (by rw[<- wR ha2];exact(List.getElem?_eq_some_iff.1 hk).1)⟩;have h1:=hI0.at_ (k+1) (64+(0+(k+1))) v (by rw[hfb,htm0];exact E4 (i:=0) (k:=k+1) (by simpa using hv));rw[hkn.at_ (k+1) u (Ck (Nat.zero_le _) (by simpa using hk))]at h1;refine ge1.vv _ _ ?_;rw[<- h1];congr 1;omega
 obtain⟨hul,hsz1,hsl1⟩:=J4 htm' hargs (fun p hp=>aj (aE.1 hps p hp)) o6 hsl
 let a1:Act:={tmps:=(ps.zip us).foldl (fun t (p,v)=>t.setIfInBounds p v) tmps,defers:=[]}
 have hI1:Inv K n ⟨[],[]⟩ (bK L) m bk σ1 g1 a1 m L:=by
  rw[<- hσ1];refine⟨hsz1,rfl,fun t bT v h=>?_,fun s bT v h=>⟨_,hsl1 s bT v h⟩,hI0.ob.mono ge1 (Le.refl m),hI0.st,fun i hi=>⟨(hfr i (by simp only at hi;omega)).1,?_,(hfr i (by simp only at hi;omega)).2.2⟩,hI0.rt⟩
  . simp only[hfb,aL]at h;exact(hsl1 t bT v h).1
  . simp only at hi;show(if _ then _ else _)=_;rw[if_pos (by omega),List.getElem?_eq_none (by omega)];rfl
 have hlp:=(hI0.st.perm (hperm.append_right _)).JT 0 rfl
 have o5':=o5
 obtain⟨fnn,D,rfl⟩:=o5'
 refine⟨l,us,fnn,(ps.zip us).foldl (fun t (p,v)=>t.setIfInBounds p v) tmps,aS,body,rfl,?_,roundIn_of_wpIn (F:=FW none) trivial ?_⟩
 . have:=run_yield (P:=P) (args:=us.toArray) hlp (by simpa using hul)
   rw[this]
   congr 2
   simp only
   rw[<- Array.foldl_toList,Array.toList_zip]
 . have nk2:NK fun(γ:Type) (e2:jo S c.outs->γ) ex σ4=>(Dn .busy (Wy ex) σ4).bind fun σ5=>(EW fa.pre σ5).bind fun σ6=>(cl tb c.fm.length (.one (.tt (exB ex))) σ0 σ6 c.outs).bind fun y=>some (e2 y):=
    fun δ δ' ψ hψ e ex σ'=>dn fun σ5=>dn fun σ6=>dn fun z=>rfl
   refine oe (rr:=some l) hT hΦ hΨ (fun h=>by rw[hrd]at h;cases h) (hD _ _ _ _ _) aS hoa (fun r hr=>by rw[hra]at hr;cases hr) an.l1 σ1 (jo S c.outs) _ (jo S c.outs) id y g1 a1 m L _ ⟨[],[]⟩ rfl ?_ hsem hI1 fun ex σ2 g2 a2 m2 L2 ds2 hds2 hk hge hle hI2=>?_
   . intro δ δ' ψ hψ e ex σ'
     cases ex with
     |normal=>exact dn fun σ3=>(pW (XZ hΨ) body).n3 _ _ _ _ _ _ ψ hψ e nk2
     |ret=>rfl
     |exit k=>rfl
   . cases ex with
     |ret=>cases hk
     |exit k=>cases hk
     |normal=>
     obtain⟨σ3,h3,hk2⟩:=aa.1 hk
     obtain rfl:ds2=⟨[],[]⟩:=hds2
     obtain⟨R2,rg2,tmps2,M0,M0',Mst,i1,i2,i3⟩:=FE hI2 hb0 hgl h3
     refine wG (WY i1 (k:=0) (hI2.st.perm i2) rfl fun m3 hle3 hS3=>?_)
     obtain⟨g3,ge3,hI3⟩:=i3 m3 hle3 hS3
     refine oe (rr:=some l) hT hΦ hΨ (fun h=>by rw[hrd]at h;cases h) (hD _ _ _ _ _) body hob (fun r hr=>by rw[hrb]at hr;cases hr) an.r1 σ3 (jo S c.outs) _ (jo S c.outs) id y g3 a2 m3 _ _ ⟨[],[]⟩ rfl nk2 hk2 hI3 fun ex σ4 g4 a4 m4 L4 ds4 hds4 hk4 hge4 hle4 hI4=>?_
     obtain⟨σ5,h5,hk5⟩:=aa.1 hk4
     obtain⟨σ6,h6,hk5⟩:=aa.1 hk5
     obtain⟨y',hy',hk6⟩:=aa.1 hk5
     have:=ax hk6
     simp only[id]at this
     subst this
     obtain rfl:ds4=⟨[],[]⟩:=hds4
     obtain⟨R4,rg4,tmps4,N0,N0',Nst,q1,q2,q3⟩:=FE hI4 hb0 hgl h5
     have fin:∀jump b,jump=ER (Wy ex)->zE (Wy ex)=(if jump.isNone then .ready else .done)->jump.isNone=b->b=(exB ex)->∃v w',(Instr.endRound l jump).run P m4.w=.ok v w'/\∃v' m' L',Ending.returned v=Ending.returned v'/\m'.w=w'/\St (bK L) m m' L'/\b6 K c bk L y' v' m' L':=fun jump b e1 e2 e3 e4=>by
      obtain⟨m5,r1,r2,r3⟩:=W4 (P:=P) (k:=0) jump q1 (hI4.st.perm q2) rfl;rw[<- e2,e1]at r3;obtain⟨g5,ge5,hI5⟩:=q3 m5 r2 r3;obtain⟨g6,m6,L6',hw6,_,ge6,hI6⟩:=yd hI5 h6;obtain⟨L6,s1,s2⟩:=eY (u:=.bool b) rfl hI6 (ge1.trans (hge.trans (ge3.trans (hge4.trans (ge5.trans ge6))))) hob0 (by simp only[bP,bM];rw[e4]) hy';exact⟨_,_,r1,_,m6,L6,rfl,hw6,s1,by rw[e3];exact s2⟩
     cases ex with
     |normal=>exact fin none true rfl rfl rfl rfl
     |ret=>exact fin (some .ret) false rfl rfl rfl rfl
     |exit k=>exact fin (some (.exit k)) false rfl rfl rfl rfl
end E
end
end Go.Proofs.YtjfkdglgecgjfaaGreat
