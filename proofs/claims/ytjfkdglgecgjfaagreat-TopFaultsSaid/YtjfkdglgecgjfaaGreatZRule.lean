/- Part of the proof. -/
import Derived.Test.YtjfkdglgecgjfaaGreatZPFive2
import Derived.ChangeKeysEq
import Derived.RangeFuncNested
import Derived.Scope
namespace Go.Proofs.YtjfkdglgecgjfaaGreat
section
open Go.RowKit G
theorem mT{d t:Nat}(e:¬ d=t):Nat.beq d t=false:=by
 cases h:Nat.beq d t with
 |true=>exact absurd (ah h) e
 |false=>rfl
theorem Ly{p:Nat->Prop}:∀k,p k->∃j,p j/\∀i,p i->j<=i:=by
 intro k
 induction k using Nat.strongRecOn with
 |_ k ih=>
  intro hk
  by_cases h:∃j,j<k/\p j
  . obtain⟨j,hj,hp⟩:=h;exact ih j hj hp
  . exact⟨k,hk,fun i hi=>Nat.le_of_not_lt fun hlt=>h ⟨i,hlt,hi⟩⟩
abbrev Kt:=List (Nat×Value)
def lk:Kt->Nat->Option Value
 |[],_=>none
 |(s,v)::K,t=>match Nat.beq s t with|true=>some v|false=>lk K t
def gV(K:Kt):Operand->Option Value
 |.tmp t=>lk K t
 |.const v=>some v
 |.global g=>some (.pointer (some ⟨g,0,none⟩))
 |.func f=>some (.func (.func f) #[] #[])
def Ke(a:Act)(K:Kt):Prop:=∀t v,lk K t=some v->a.eval (.tmp t)=v
theorem Ke.nil(a:Act):Ke a []:=fun t v h=>by simp[lk]at h
theorem Ke.cons{a:Act}{K:Kt}{t:Nat}{v:Value}(h:a.eval (.tmp t)=v)(hK:Ke a K):Ke a ((t,v)::K):=fun s u hu=>by
 unfold lk at hu;by_cases e:t=s
 . subst e;simp at hu;subst hu;exact h
 . rw[mT e]at hu;exact hK s u hu
theorem Ke.ev{a:Act}{K:Kt}(h:Ke a K){x:Operand}{v:Value}(hx:gV K x=some v):a.eval x=v:=by
 cases x with
 |tmp t=>exact h t v hx
 |const c=>simp[gV]at hx;exact hx
 |global g=>simp[gV]at hx;exact hx
 |func f=>simp[gV]at hx;exact hx
def FW(r:Option Nat):Fence:={fn:=fun _=>True,depth:=none,alive:=false,round:=r}
structure Kn(n:Nat)(a:Act)(K:Kt)(ds:List Deferred:=[]):Prop where
 size:a.tmps.size=n
 defers:a.defers=ds
 at_:Ke a K
section
variable {n:Nat}{a:Act}{K K':Kt}{ds:List Deferred}
theorem Kn.ev(h:Kn n a K ds){x:Operand}{v:Value}(hx:gV K x=some v):a.eval x=v:=h.at_.ev hx
theorem Kn.put(h:Kn n a K ds){d:Nat}(v:Value)(hd:d<n):Kn n (a.put (some d) v) ((d,v)::K) ds:=by
 refine⟨by simp[Act.put,h.size],h.defers,fun t u hu=>?_⟩;unfold lk at hu;by_cases e:d=t
 . subst e;simp at hu;subst hu;simp[Act.put,Act.eval,Array.getD,h.size,hd]
 . have:Nat.beq d t=false:=mT e;rw[this]at hu;rw[Act.eval_put (fun d' hd' e'=>by cases hd';cases e';exact e rfl)];exact h.at_ t u hu
def only(K:Kt):List Nat->Kt
 |[]=>[]
 |t::ts=>match lk K t with|some v=>(t,v)::only K ts|none=>only K ts
end
def qP(P:Program)(b6:Value->World->Prop):Result Next->Prop
 |.ok (.value v) w'=>b6 v w'
 |.ok .skip w'=>b6 undef w'
 |.ok (.enter f args) w'=>Calls P f args w' fun e w''=>∃v,e=.returned v/\b6 v w''
 |.ok (.round l f tmps fC body) w'=>RoundIn (FW none) 0 P l f tmps fC body w' fun e w''=>∃v,e=.returned v/\b6 v w''
 |_=>False
def bI(P:Program)(o:Oper)(a:Act)(w:World)(b6:Value->World->Prop):Prop:=qP P b6 ((execOp a.eval o).run P w)
theorem bI.Tf{P:Program}{o:Oper}{a:Act}{w:World}{b6:Value->World->Prop}(h:bI P o a w b6):∀c,o.op≠ .defer c:=by
 intro c hc;unfold bI execOp at h;simp only[hc,Sem.run_bind]at h;generalize (resolve a.eval c o.type).run P w=r at h;cases r<;>simp[Result.andThen,Sem.run_pure,qP]at h
theorem IZ{P:Program}{f:FuncId}{args:Array Value}{w:World}{R:Ending->World->Prop}(r:Option Nat)(h:Calls P f args w R):CallsIn (FW r) 0 P f args w R:=
 ⟨trivial,fun cs _=>let⟨e,w',fr,hr,s,x⟩:=h cs;⟨e,w',fr,hr,comesIn_wide.2 s,x⟩⟩
theorem TN{P:Program}{l:Nat}{f:FuncId}{tmps:Array Value}{fC body:Code}{w:World}{R:Ending->World->Prop}(r:Option Nat)(h:RoundIn (FW none) 0 P l f tmps fC body w R):RoundIn (FW r) 0 P l f tmps fC body w R:=h
theorem bI.wp{P:Program}{o:Oper}{a:Act}{w:World}{b6:Value->World->Prop}{K:Act->World->Prop}{Q:Exit->Act->World->Prop}{rr:Option Nat}
 (h:bI P o a w b6) (hK:∀v w',b6 v w'->K (a.put o.dst v) w'):o.wpIn (FW rr) 0 P a w K Q:=by
 have hd:=h.Tf
 unfold bI at h
 unfold Oper.wpIn
 refine⟨fun _ _=>trivial,?_⟩
 rw[Oper.semAt_eq _ _ _ hd]
 generalize (execOp a.eval o).run P w=r at*
 cases r with
 |ok n w'=>
  cases n<;>simp only[qP]at h<;>simp only[Oper.uponIn]
  case value v=>exact hK _ _ h
  case skip=>exact hK _ _ h
  case enter f args=>exact⟨fun h=>by simp[FW]at h,IZ rr (h.mono fun e w'' ⟨v,he,h1⟩=>by subst he;exact hK _ _ h1)⟩
  case round l f tmps fC body=>exact⟨fun h=>by simp[FW]at h,TN rr (h.mono fun e w'' ⟨v,he,h1⟩=>by subst he;exact hK _ _ h1)⟩
 |halt x w'=>simp only[qP]at h
theorem bI.mono{P:Program}{o:Oper}{a:Act}{w:World}{b6 Post':Value->World->Prop}(h:bI P o a w b6)(hq:∀v w',b6 v w'->Post' v w'):bI P o a w Post':=by
 unfold bI at*
 generalize (execOp a.eval o).run P w=r at*
 cases r with
 |ok n w'=>
  cases n<;>simp only[qP]at h ⊢
  case value v=>exact hq _ _ h
  case skip=>exact hq _ _ h
  case enter f args=>exact h.mono fun e w'' ⟨v,he,h1⟩=>⟨v,he,hq _ _ h1⟩
  case round l f tmps fC body=>exact h.mono fun e w'' ⟨v,he,h1⟩=>⟨v,he,hq _ _ h1⟩
 |halt x w'=>simp only[qP]at h
def sd(ops:Array Oper)(j:Nat):Option Nat:=(ops[j]?).bind (·.dst)
def tq(ops:Array Oper)(K:Kt):Option (Nat×Bool)->Bool
 |none=>true
 |some (j,b)=>match sd ops j with
  |some t=>match lk K t with
   |some (.bool c)=>c == b
   |_=>false
  |none=>false
def rD(ops:Array Oper)(K:Kt):Option (Nat×Bool)->Bool
 |none=>false
 |some (j,b)=>match sd ops j with
  |some t=>match lk K t with
   |some (.bool c)=>c !=b
   |some (.tuple _)=>true
   |_=>false
  |none=>false
section
variable {P:Program}{ops:Array Oper}{o:Oper}{n:Nat}{a:Act}{K:Kt}{ds:List Deferred}{w:World}{rest:List Oper}{Q:Exit->Act->World->Prop}{rr:Option Nat}
theorem OZ{t:Nat}{v:Value}(hv:a.eval (.tmp t)=v)(hu:v≠undef):a.tmps[t]?=some v:=by
 simp only[Act.eval,Array.getD_eq_getD_getElem?]at hv
 cases hq:a.tmps[t]? with
 |none=>rw[hq]at hv;exact absurd hv.symm hu
 |some u=>rw[hq]at hv;simpa using hv
theorem Ao(hK:Kn n a K ds)(h:tq ops K o.guard=true):Region.wanted o (yielded ops a.tmps)=true:=by
 unfold tq at h
 cases hg:o.guard with
 |none=>simp[Region.wanted,hg]
 |some p=>
  obtain⟨j,b⟩:=p
  rw[hg]at h
  simp only at h
  cases hs:sd ops j with
  |none=>rw[hs]at h;cases h
  |some t=>
   rw[hs]at h
   simp only at h
   cases hl:lk K t with
   |none=>rw[hl]at h;cases h
   |some v=>
    rw[hl]at h
    cases v<;>simp only[aH]at h
    rename_i c
    have hcb:c=b:=by simpa using h
    subst hcb
    have ht:=OZ (hK.at_ t _ hl) (by simp[undef])
    unfold sd at hs
    simp[Region.wanted,hg,yielded,hs,ht]
theorem mP(hK:Kn n a K ds)(h:rD ops K o.guard=true):Region.wanted o (yielded ops a.tmps)=false:=by
 unfold rD at h
 cases hg:o.guard with
 |none=>rw[hg]at h;cases h
 |some p=>
  obtain⟨j,b⟩:=p
  rw[hg]at h
  simp only at h
  cases hs:sd ops j with
  |none=>rw[hs]at h;cases h
  |some t=>
   rw[hs]at h
   simp only at h
   cases hl:lk K t with
   |none=>rw[hl]at h;cases h
   |some v=>
    rw[hl]at h
    have hv:=hK.at_ t _ hl
    unfold sd at hs
    cases v<;>simp only[aH]at h
    . rename_i c
      have ht:=OZ hv (by simp[undef])
      have hcb:c≠b:=by simpa using h
      simp[Region.wanted,hg,yielded,hs,ht,hcb]
    . rename_i vs
      have ht:∀c,a.tmps[t]?≠some (.bool c):=by
       intro c hc;simp[Act.eval,hc]at hv
      simp only[Region.wanted,hg,yielded,hs,ae]
      cases hq:a.tmps[t]? with
      |none=>rfl
      |some u=>cases u<;>first|rfl|(exact absurd hq (ht _))
def Zr(ops:Array Oper)(o:Oper)(K:Kt)(n d:Nat):Bool:=tq ops K o.guard&&decide (o.dst=some d)&&decide (d<n)
def Mc(ops:Array Oper)(o:Oper)(K:Kt)(n d:Nat):Bool:=rD ops K o.guard&&decide (o.dst=some d)&&decide (d<n)
theorem acs(d:Nat)(hK:Kn n a K ds)(hc:Zr ops o K n d=true)(h:bI P o a w fun v w'=>∀a',Kn n a' ((d,v)::K) ds->wpListIn (FW rr) 0 P ops Q rest a' w'):wpListIn (FW rr) 0 P ops Q (o::rest) a w:=by
 simp only[Zr,al,aJ]at hc;obtain⟨⟨h1,h2⟩,h3⟩:=hc;unfold wpListIn;rw[if_pos (Ao hK h1)];exact h.wp fun v w' hp=>hp _ (by rw[h2];exact hK.put v h3)
theorem ZH(d:Nat)(hK:Kn n a K ds)(hc:Mc ops o K n d=true)(h:∀a',Kn n a' ((d,undef)::K) ds->wpListIn (FW rr) 0 P ops Q rest a' w):wpListIn (FW rr) 0 P ops Q (o::rest) a w:=by
 simp only[Mc,al,aJ]at hc;obtain⟨⟨h1,h2⟩,h3⟩:=hc;unfold wpListIn;rw[if_neg (by rw[mP hK h1];simp)];exact⟨fun _ _=>trivial,h _ (by rw[h2];exact hK.put undef h3)⟩
end
section
variable {P:Program}{Q:Exit->Act->World->Prop}{rr:Option Nat}{n:Nat}{a:Act}{K:Kt}{ds:List Deferred}{w:World}
theorem KA{x y:Code}(h:x.wpIn (FW rr) 0 P (Exit.then (y.wpIn (FW rr) 0 P Q) Q) a w):(x.seq y).wpIn (FW rr) 0 P Q a w:=wpIn_seq h
theorem El{id:Nat}{ops:Array Oper}(h:wpListIn (FW rr) 0 P ops Q ops.toList a w):(Code.region id ops false).wpIn (FW rr) 0 P Q a w:=wpIn_region_list h
theorem wG{next:Act->World->Prop}(h:next a w):Exit.then next Q .normal a w:=h
theorem Uz{next:Act->World->Prop}{i:Nat}(h:Q (.exit i) a w):Exit.then next Q (.exit i) a w:=h
theorem aap{i:Nat}(h:Q .normal a w):Exit.inBlock i Q (.exit i) a w:=by show(if i=i then _ else _);rw[if_pos rfl];exact h
theorem aaq{i j:Nat}(hne:j≠i)(h:Q (.exit j) a w):Exit.inBlock i Q (.exit j) a w:=by show(if j=i then _ else _);rw[if_neg hne];exact h
theorem UI{c:Code}(I:Nat->Act->World->Prop)(h0:∃k0,I k0 a w)(round:∀k a w,I k a w->c.wpIn (FW rr) 0 P (Exit.then (fun a' w'=>∃k',k'<k/\I k' a' w') Q) a w):(Code.loop c).wpIn (FW rr) 0 P Q a w:=by
 have hmin:∀a w,(∃k,I k a w)->∃j,I j a w/\∀i,I i a w->j<=i:=fun a w ⟨k,hk⟩=>Ly k hk
 refine wpIn_loop (fun a w=>∃k,I k a w) (fun a w=>Classical.epsilon fun j=>I j a w/\∀i,I i a w->j<=i) h0 fun a w hI=>?_
 have hm:=Classical.epsilon_spec (hmin a w hI);refine wpIn_mono (round _ a w hm.1) fun e a' w' hq=>?_
 cases e with
 |normal=>
  obtain⟨k',hlt,hk⟩:=hq
  exact⟨⟨k',hk⟩,Nat.lt_of_le_of_lt ((Classical.epsilon_spec (hmin a' w' ⟨k',hk⟩)).2 k' hk) hlt⟩
 |exit i=>exact hq
 |goto l=>exact hq
 |ret=>exact hq
 |panic c=>exact hq
 |outgrown=>exact hq
end
def wQ:Nat->List Value->Kt
 |_,[]=>[]
 |i,v::vs=>(i,v)::wQ (i+1) vs
theorem JE:∀(vs:List Value) (i t:Nat) (v:Value),lk (wQ i vs) t=some v->i<=t/\vs[t-i]?=some v
 |[],_,_,_,h=>by simp[wQ,lk]at h
 |u::vs,i,t,v,h=>by
  unfold wQ lk at h;by_cases e:i=t
  . subst e;simp at h;subst h;simp
  . have hb:Nat.beq i t=false:=mT e;rw[hb]at h;obtain⟨h1,h2⟩:=JE vs (i+1) t v h;refine⟨by omega,?_⟩;rw[show t-i=(t-(i+1))+1 by omega];simpa using h2
def C5(P:Program)(fn:Func)(m:Mem)(L:List bR)(Q:Value->Mem->List bR->Prop):Exit->Act->World->Prop:=
 bodyPostM (FW none) 0 P fn fun e w'=>∃v m' L',e=.returned v/\m'.w=w'/\St (bK L) m m' L'/\Q v m' L'
theorem Jy{fn:Func}{args:List Value}(n:Nat)(hn:fn.ntmps=n)(hle:args.length<=n):Kn n {tmps:=args.toArray++Array.replicate (fn.ntmps-args.toArray.size) undef,defers:=[]} (wQ 0 args):=by
 refine⟨by simp[hn];omega,rfl,fun t v hv=>?_⟩;obtain⟨_,h2⟩:=JE args 0 t v hv;have ht:t<args.length:=(List.getElem?_eq_some_iff.1 h2).1;simp only[Act.eval,Array.getD_eq_getD_getElem?];rw[Array.getElem?_append_left (by simpa using ht)];simpa using congrArg (Option.getD · undef) h2
theorem enter{P:Program}{f:FuncId}{fn:Func}{c:Code}{args:List Value}{m:Mem}{L:List bR}{Q:Value->Mem->List bR->Prop}(n:Nat)(hf:P.funcs[f]?=some fn)(hb:fn.body=some c)
 (hn:fn.ntmps=n) (hle:args.length<=n) (h:∀a,Kn n a (wQ 0 args)->c.wpIn (FW none) 0 P (C5 P fn m L Q) a m.w):Spec P f args.toArray m L Q:=
 callsIn_wide.1 (callsIn_of_wp_marks (F:=FW none) (n:=0) hf hb trivial (h _ (Jy n hn hle)) rfl)
def vZ(d:TypeDesc):Bool:=match d with| .struct _| .array _ _=>true|_=>false
def fD(P:Program)(t:TypeId):Option (Bool×Nat):=match P.underlying t,P.info? t with|some d,some i=>some (vZ d,i.size)|_,_=>none
theorem js{P:Program}{t:TypeId}{b:Bool}{s:Nat}(h:fD P t=some (b,s)):∃d i,P.underlying t=some d/\P.info? t=some i/\vZ d=b/\i.size=s:=by
 unfold fD at h
 cases hu:P.underlying t with
 |none=>simp[hu]at h
 |some d=>
  cases hi:P.info? t with
  |none=>simp[hu,hi]at h
  |some i=>simp[hu,hi]at h;exact⟨d,i,rfl,rfl,h.1,h.2⟩
section
variable {P:Program}{w:World}{t:TypeId}
theorem kW{d:TypeDesc}(hu:P.underlying t=some d):(isAgg t).run P w=.ok (vZ d) w:=by
 unfold isAgg;rw[Sem.run_bind,run_underlying hu];cases d<;>rfl
theorem uT{b o:Nat}{v:Value}{s:Nat}(hT:fD P t=some (false,s))(hc:w.cell? ⟨b,o,none⟩=some v):(loadVar t ⟨b,o,none⟩).run P w=.ok v w:=by
 obtain⟨d,i,hu,hi,hd,hs⟩:=js hT;simp[loadVar,kW hu,hd,hc]
theorem zW{b o:Nat}{cs:List Value}(hT:fD P t=some (true,cs.length))(hc:∀k v,cs[k]?=some v->w.cell? ⟨b,o+k,none⟩=some v):(loadVar t ⟨b,o,none⟩).run P w=.ok (.agg cs.toArray) w:=by
 obtain⟨d,i,hu,hi,hd,hs⟩:=js hT;have:=run_loadCells_list (P:=P) w ⟨b,o,none⟩ cs (fun j v hv=>by rw[Addr.add_mid];exact hc j v hv);simp[loadVar,kW hu,hd,sizeOf,typeInfo,hi,hs,this]
end
inductive Cd(P:Program)(K:Kt)(w:World):List ResultVar->List Value->Prop
 |nil:Cd P K w [] []
 |tmp {t:Nat} {v:Value} {rs:List ResultVar} {vs:List Value}:lk K t=some v->Cd P K w rs vs->Cd P K w (.tmp t::rs) (v::vs)
 |one {p:Nat} {T:TypeId} {s b o:Nat} {v:Value} {rs:List ResultVar} {vs:List Value}:fD P T=some (false,s)->lk K p=some (.pointer (some ⟨b,o,none⟩))->w.cell? ⟨b,o,none⟩=some v->Cd P K w rs vs->Cd P K w (.cell p T::rs) (v::vs)
 |agg {p:Nat} {T:TypeId} {b o:Nat} {cs:List Value} {rs:List ResultVar} {vs:List Value}:fD P T=some (true,cs.length)->lk K p=some (.pointer (some ⟨b,o,none⟩))->(∀k v,cs[k]?=some v->w.cell? ⟨b,o+k,none⟩=some v)->
  Cd P K w rs vs->Cd P K w (.cell p T::rs) (.agg cs.toArray::vs)
def A4:List Value->Value
 |[v]=>v
 |vs=>.tuple vs.toArray
section
variable {P:Program}{n:Nat}{a:Act}{K:Kt}{ds:List Deferred}{w:World}
theorem wu(x:Addr):(asAddr (.pointer (some x))).run P w=.ok x w:=rfl
theorem TS(hK:Kn n a K ds)(f:ResultVar->Sem Value)(hf1:∀t,f (.tmp t)=pure (a.tmps.getD t undef))(hf2:∀p t,f (.cell p t)=(do loadVar t (<- asAddr (a.tmps.getD p undef)))):
 ∀(rs:List ResultVar) (vs:List Value),Cd P K w rs vs->(rs.mapM f).run P w=.ok vs w:=by
 intro rs vs h
 induction h with
 |nil=>simp
 |tmp hl _ ih=>
  have:=hK.at_ _ _ hl
  simp only[Act.eval]at this
  simp only[List.mapM_cons,hf1,hf2,Sem.run_bind,Sem.run_pure,Result.andThen_ok,this,ih]
 |one hT hp hc _ ih=>
  have:=hK.at_ _ _ hp
  simp only[Act.eval]at this
  simp only[List.mapM_cons,hf1,hf2,Sem.run_bind,Sem.run_pure,Result.andThen_ok,this,wu,uT hT hc,ih]
 |agg hT hp hc _ ih=>
  have:=hK.at_ _ _ hp
  simp only[Act.eval]at this
  simp only[List.mapM_cons,hf1,hf2,Sem.run_bind,Sem.run_pure,Result.andThen_ok,this,wu,zW hT hc,ih]
theorem Kb{fn:Func}{rs:List ResultVar}{vs:List Value}(hr:fn.results=rs.toArray)(hK:Kn n a K ds)(h:Cd P K w rs vs):(results fn a.tmps).run P w=.ok (A4 vs) w:=by
 have h1:=fun f h1 h2=>TS (P:=P) (w:=w) hK f h1 h2 rs vs h
 have hm:∀x:Sem (List Value),(List.toArray <$> x:Sem (Array Value))=x >>= fun l=>pure l.toArray:=fun _=>rfl
 unfold results;rw[hr,List.mapM_toArray,hm];simp only[Sem.run_bind,Sem.run_pure];rw[h1 _ (fun _=>rfl) (fun _ _=>rfl)];simp only[Result.andThen_ok,Sem.run_pure];congr 1
 match vs with
 |[]=>rfl
 |[v]=>rfl
 |v::u::r=>simp[A4]
theorem ZI{fn:Func}{m m':Mem}{L L':List bR}{Q:Value->Mem->List bR->Prop}(rs:List ResultVar)(vs:List Value)(hr:fn.results=rs.toArray)(hK:Kn n a K)(h:Cd P K m'.w rs vs)(hS:St (bK L) m m' L')(hq:Q (A4 vs) m' L'):
 C5 P fn m L Q .ret a m'.w:=by
 show LeavesInM _ _ _ _ _ _ a.defers _ _
 rw[hK.defers]
 exact⟨A4 vs,Kb hr hK h,A4 vs,m',L',rfl,rfl,hS,hq⟩
end
section
variable {P:Program}{o:Oper}{n:Nat}{a:Act}{K:Kt}{ds:List Deferred}{B:List Nat}{m0 m:Mem}{L:List bR}{b6:Value->World->Prop}{x y:Operand}{t:TypeId}
theorem Cq{b i:Nat}{cs:Array Value}{T:TypeId}(hS:St B m0 m L)(k:Nat)(hk:L[k]?=some (.box b cs T)):m.w.cell? ⟨b,i,none⟩=cs[i]?:=
 cell_of_row _ _ _ _ _ _ (hS.Cp k hk)
theorem abz{v:Value}(hK:Ke a K)(hS:St B m0 m L)(ho:o.op=.box t x)(hx:gV K x=some v)
 (hp:∀m' b,m.w.heap.size<=b->Le m m'->St B m0 m' (.box b v.cells t::L)->b6 (.pointer (some ⟨b,0,none⟩)) m'.w):bI P o a m.w b6:=by
 unfold bI execOp
 simp only[ho,hK.ev hx,Instr.box,newVar,newRow,newObj,Sem.run_bind,Sem.run_pure,Result.andThen_ok,Sem.run]
 have h:=hS.zH v.cells t
 exact hp _ _ (Nat.le_refl _) (St.new (St.refl (Ow.nil m)) rfl (.box m.w.heap.size v.cells t) rfl (eu _ _)).le h
theorem mH{z:Value}{w:World}(hz:(P.info? t).map (·.zero)=some (some z)):(zeroValue t).run P w=.ok z w:=by
 cases hi:P.info? t with
 |none=>simp[hi]at hz
 |some i=>
  have hz:i.zero=some z:=by simpa[hi]using hz
  simp[zeroValue,typeInfo,hi,hz]
theorem Xa(z:Value)(hK:Ke a K)(hS:St B m0 m L)(ho:o.op=.alloc t)(hz:(P.info? t).map (·.zero)=some (some z))
 (hp:∀m' b,m.w.heap.size<=b->Le m m'->St B m0 m' (.box b z.cells t::L)->b6 (.pointer (some ⟨b,0,none⟩)) m'.w):bI P o a m.w b6:=by
 unfold bI execOp
 simp only[ho,Instr.alloc,newVar,newRow,newObj,Sem.run_bind,Sem.run_pure,Result.andThen_ok,mH hz,Sem.run]
 have h:=hS.zH z.cells t
 exact hp _ _ (Nat.le_refl _) (St.new (St.refl (Ow.nil m)) rfl (.box m.w.heap.size z.cells t) rfl (eu _ _)).le h
def putAt(cs:Array Value)(i:Nat)(vs:List Value):Array Value:=(cs.toList.take i++vs++cs.toList.drop (i+vs.length)).toArray
theorem Mv{w:World}{b i:Nat}{cs:Array Value}{T:TypeId}{v:Value}(hb:w.heap[b]?=some (.cells cs T (0,0)))(hT:(fD P t).map (·.2)=some v.cells.size)(hfit:i+v.cells.size<=cs.size)(h1:v.cells.toList.all (·.oneCell')=true):
 ∃w',(storeVar t ⟨b,i,none⟩ v).run P w=.ok () w'/\w.grownBy w' (some b)/\w'.heap.size=w.heap.size/\w'.heap[b]?=some (.cells (putAt cs i v.cells.toList) T (0,0)):=by
 obtain⟨inf,hi,hsz⟩:∃i,P.info? t=some i/\i.size=v.cells.size:=by
  cases ha:fD P t with
  |none=>simp[ha]at hT
  |some p=>
   obtain⟨d,i,hu,hi,hd,hsz⟩:=js (b:=p.1) (s:=p.2) ha
   exact⟨i,hi,by rw[ha]at hT;simpa[hsz]using hT⟩
 have hst:=run_storeCells_at P b i T v.cells.toList 0 cs w hb (by simp;omega) (fun u hu=>aE.1 h1 u hu)
 simp only[Nat.add_zero]at hst
 refine⟨_,?_,?_,?_,setRow_heap w b cs _ T _ hb⟩
 . simp[storeVar,sizeOf,typeInfo,hi,hsz,hst,putAt]
 . exact⟨rfl,rfl,rfl,by simp,fun k _ hk=>setRow_other w b k _ (fun e=>hk (by rw[e]))⟩
 . simp
theorem OM{b i:Nat}{cs:Array Value}{T:TypeId}{v:Value}(hK:Ke a K)(k:Nat)(hS:St B m0 m L)(ho:o.op=.store t x y)(hx:gV K x=some (.pointer (some ⟨b,i,none⟩)))(hy:gV K y=some v)(hk:L[k]?=some (.box b cs T))
 (hT:(fD P t).map (·.2)=some v.cells.size) (hfit:decide (i+v.cells.size<=cs.size)=true) (h1:v.cells.toList.all (·.oneCell')=true)
 (hp:∀m',Le m m'->St B m0 m' (.box b (putAt cs i v.cells.toList) T::L.eraseIdx k)->b6 undef m'.w):bI P o a m.w b6:=by
 obtain⟨w',h2,h3,h4,h5⟩:=Mv (P:=P) (t:=t) (hS.Cp k hk) hT (aZ hfit) h1
 have hS1:=hS.front k hk
 have hS2:=hS1.write h3 h4 h5
 have hr:St (bK (bR.box b cs T::L.eraseIdx k)) m ⟨w',m.ok⟩ _:=(St.refl hS1.ow).write h3 h4 h5
 unfold bI execOp
 simp only[ho,hK.ev hx,hK.ev hy,Instr.storeAt,Instr.sureAddr,Sem.run_bind,Sem.run_pure,Result.andThen_ok,h2]
 exact hp ⟨w',m.ok⟩ hr.le hS2
end
def Enters(P:Program)(f:FuncId):Prop:=∀(args:Array Value) (w:World),(callFunc f args).run P w=.ok (.enter f args) w
theorem enters_of{P:Program}{f:FuncId}{fn:Func}(hf:P.funcs[f]?=some fn)(h1:(fn.name == "runtime.NumGoroutine")=false)(h2:fn.body.isNone=false):Enters P f:=by
 intro args w;have e1:fn.name≠ "runtime.NumGoroutine" :=by simpa using h1
 have e2:fn.body≠none:=by intro e;simp[e]at h2
 simp[callFunc,program,Sem.run,hf,e1,e2]
section
variable {P:Program}{o:Oper}{n:Nat}{a:Act}{K:Kt}{ds:List Deferred}{B:List Nat}{m0 m:Mem}{L:List bR}{b6:Value->World->Prop}{x y:Operand}{t e:TypeId}{α:Type}{R:Mem->α->List Value->Prop}{sz:Nat}
theorem kY{w:World}{z:Value}{bytes:Nat}(hT:dE P t e z sz bytes):(sizeOf e).run P w=.ok sz w:=by
 obtain⟨i,hi,hz,hs,hb⟩:=info_parts hT.info;simp[sizeOf,typeInfo,hi,hs]
theorem Xc[Inhabited α]{z:Value}{bytes:Nat}{ad:Option Addr}{cap:Nat}{l:List α}{k:IntKind}{i:Int}(hT:dE P t e z sz bytes)(hE:dM R m sz ad cap l)(j:Nat)(hK:Ke a K)(ho:o.op=.indexAddr t x y)(hx:gV K x=some (.slice ad l.length cap))(hy:gV K y=some (.int k i))
 (hij:i=(j:Int)) (hj:j<l.length) (hp:∀b p cs,R m l[j]! cs->At m b p cs->b6 (.pointer (some ⟨b,p,none⟩)) m.w):bI P o a m.w b6:=by
 subst hij
 rw[getElem!_pos l j hj]at hp
 obtain⟨b,q,cs,rfl,hl,hr,hA⟩:=hE.get hT.pos hj
 have hb:(0:Int)<=(j:Int)/\(j:Int)<(l.length:Int):=⟨by omega,by omega⟩
 unfold bI execOp
 simp only[ho,hK.ev hx,hK.ev hy,Instr.indexAt,asIntOf,Sem.run_bind,Sem.run_pure,Result.andThen_ok,run_underlying hT.gH,kY hT,hb,and_self,if_true,aG,Addr.add_mid]
 exact hp b (q+j*sz) cs hr hA
theorem W5{w:World}{ad:Option Addr}{k cap:Nat}{ty:TypeId}(hu:P.underlying t=some (.slice e)):(Builtin.len_ #[t] ty #[.slice ad k cap]).run P w=.ok (.int .i64 k) w:=by
 simp[Builtin.len_,run_underlying hu];rfl
theorem T8{z:Value}{bytes:Nat}{g:Option Nat}{cap cap2:Nat}{l l':List α}{a2:Option Addr}(hT:dE P t e z sz bytes)(hR:oY R sz)(hK:Ke a K)(k:Nat)(hS:St B m0 m L)(hk:L[k]?=some (rowOf e sz g cap l))(hE:dM R m sz (fP g) cap l)(hE2:dM R m sz a2 cap2 l')
 (ho:o.op=.call ⟨.builtin .append,#[x,y],#[t,t]⟩) (hx:gV K x=some (.slice (fP g) l.length cap)) (hy:gV K y=some (.slice a2 l'.length cap2)) (hlen:(l.length+l'.length)*bytes<=140737488355328)
 (hp:∀m' g' cap',Le m m'->St B m0 m' (rowOf e sz g' cap' (l++l')::L.eraseIdx k)->dM R m' sz (fP g') cap' (l++l')->b6 (.slice (fP g') (l++l').length cap') m'.w) (h63:l.length+l'.length<=maxLen):bI P o a m.w b6:=by
 obtain⟨g',cap',m',h1,h2,h3,h4⟩:=Cj (ty:=o.type) hT hR (hS.front k hk) hE hE2 hlen h63
 unfold bI execOp
 simp only[ho,resolve,invoke,builtin,Sem.run_bind,Sem.run_pure,Result.andThen_ok,aX,aF,bp,hK.ev hx,hK.ev hy,h1]
 exact hp m' g' cap' h2 h3 h4
end
abbrev U8(c:UInt8):Value:=.int .u8 (c.toNat:Int)
def rI(_:Mem)(x:UInt8)(cs:List Value):Prop:=cs=[U8 x]
theorem Mq:oY rI 1:=⟨fun h _=>h,fun h=>by rw[h];rfl,fun h u hu=>by rw[h]at hu;simp at hu;subst hu;rfl,by decide⟩
inductive pM{α β:Type}(R:α->β->Prop):List α->List β->Prop
 |nil:pM R [] []
 |cons {a:α} {b:β} {l:List α} {l':List β}:R a b->pM R l l'->pM R (a::l) (b::l')
theorem pM.len{α β:Type}{R:α->β->Prop}{l:List α}{l':List β}(h:pM R l l'):l.length=l'.length:=by
 induction h with
 |nil=>rfl
 |cons _ _ ih=>simp[ih]
theorem dQ{P:Program}{w:World}{k:IntKind}{j y:Nat}{c:BoundsCode}(h:j<=y):(Instr.sliceBound (.int k (j:Int)) y c).run P w=.ok j w:=by
 have hb:(0:Int)<=(j:Int)/\(j:Int)<=(y:Int):=⟨by omega,by omega⟩;simp only[Instr.sliceBound,asIntOf,Sem.run_bind,Sem.run_pure,Result.andThen_ok,hb,and_self,if_true,aG]
section
variable {P:Program}{o:Oper}{n:Nat}{a:Act}{K:Kt}{ds:List Deferred}{B:List Nat}{m0 m:Mem}{L:List bR}{b6:Value->World->Prop}{x y z:Operand}{t e:TypeId}{α:Type}{R:Mem->α->List Value->Prop}{sz:Nat}
theorem St.KR(hS:St B m0 m L)(T:TypeId)(sz:Nat):St B m0 m (rowOf T sz none 0 ([]:List α)::L):=
 ⟨hS.le,hS.kept,hS.news,⟨by rw[eJ];exact hS.ow.nodup,fun x hx=>by
  rcases aB.1 hx with rfl|hx
  . intro b hb;cases hb
  . exact hS.ow.ok x hx,fun x hx=>by
  rcases aB.1 hx with rfl|hx
  . intro b hb;simp[rowOf,bR.row]at hb
  . exact hS.ow.apart x hx⟩,fun b hb=>hS.mQ b (by rw[eJ]at hb;simpa[rowOf,bR.row]using hb)⟩
theorem VW{l:List α}{b cap:Nat}(hR:oY R sz)(css:List (List Value)){cs:List Value}(hA:At m b 0 cs)(hcs:cs=css.flatten)(hm:cap<=maxLen)(h:pM (fun x c=>R m x c) l css)(hcap:l.length=cap:=by rfl):dM R m sz (some ⟨b,0,none⟩) cap l:=by
 subst hcs;subst hcap;have hl:css.length=l.length:=h.len.symm;refine dM.abo hR hl (fun i x c hx hc=>?_) hA (Nat.le_refl _) hm;clear hA hm
 induction h generalizing i with
 |nil=>simp at hx
 |cons h1 _ ih=>
  cases i with
  |zero=>simp at hx hc;subst hx hc;exact h1
  |succ i=>exact ih (by simpa using hl) i (by simpa using hx) (by simpa using hc)
theorem kX{w:World}{zv:Value}{bytes:Nat}(hT:dE P t e zv sz bytes)(ad:Option Addr)(len cap l h:Nat)(lo hi:Option Value)(hb:(Instr.sliceBounds true len cap lo hi none).run P w=.ok (l,h,cap) w):
 (Instr.sliceAt t (.slice ad len cap) lo hi none).run P w=.ok (.slice (dG ad cap l sz) (h-l) (cap-l)) w:=by
 simp only[Instr.sliceAt,Sem.run_bind,run_underlying hT.gH,Result.andThen_ok,Instr.slice,hb,kY hT,Sem.run_pure]
 rfl
theorem A5{zv:Value}{bytes:Nat}{ad:Option Addr}{cap:Nat}{l:List α}{k:IntKind}{i:Int}(hT:dE P t e zv sz bytes)(hE:dM R m sz ad cap l)(j:Nat)(hij:i=(j:Int))(hK:Ke a K)(ho:o.op=.slice t x (some y) none none)(hx:gV K x=some (.slice ad l.length cap))(hy:gV K y=some (.int k i))
 (hj:j<=l.length) (hp:b6 (.slice (dG ad cap j sz) (l.drop j).length (cap-j)) m.w):bI P o a m.w b6:=by
 subst hij
 have:=kX (P:=P) (w:=m.w) hT ad l.length cap j l.length (some (.int k j)) none (by simp only[Instr.sliceBounds,Sem.run_bind,Sem.run_pure,Result.andThen_ok,dQ hj])
 unfold bI execOp
 simp only[ho,ak,Option.map_none,hK.ev hx,hK.ev hy,Sem.run_bind,this,Result.andThen_ok,Sem.run_pure]
 rw[bh]at hp;exact hp
theorem QJ{zv:Value}{bytes:Nat}{ad:Option Addr}{cap:Nat}{l:List α}{k:IntKind}{i:Int}(hT:dE P t e zv sz bytes)(hE:dM R m sz ad cap l)(j:Nat)(hij:i=(j:Int))(hK:Ke a K)(ho:o.op=.slice t x none (some y) none)(hx:gV K x=some (.slice ad l.length cap))(hy:gV K y=some (.int k i))
 (hj:j<=l.length) (hp:b6 (.slice ad (l.take j).length cap) m.w):bI P o a m.w b6:=by
 subst hij
 have hc:=hE.sC.2.2
 have:=kX (P:=P) (w:=m.w) hT ad l.length cap 0 j none (some (.int k j)) (by simp only[Instr.sliceBounds,Sem.run_bind,Sem.run_pure,Result.andThen_ok,dQ (Nat.le_trans hj hc)])
 unfold bI execOp
 simp only[ho,ak,Option.map_none,hK.ev hx,hK.ev hy,Sem.run_bind,this,Result.andThen_ok,Sem.run_pure,gR,Nat.sub_zero]
 rw[aM,Nat.min_eq_left hj]at hp;exact hp
theorem MC{zv:Value}{bytes:Nat}{ad:Option Addr}{cap:Nat}{l:List α}{k k':IntKind}{i i':Int}(hT:dE P t e zv sz bytes)(hE:dM R m sz ad cap l)(j j':Nat)(hij:i=(j:Int))(hij':i'=(j':Int))(hK:Ke a K)(ho:o.op=.slice t x (some y) (some z) none)(hx:gV K x=some (.slice ad l.length cap))(hy:gV K y=some (.int k i))(hz:gV K z=some (.int k' i'))
 (hj:j<=j'/\j'<=l.length) (hp:b6 (.slice (dG ad cap j sz) ((l.take j').drop j).length (cap-j)) m.w):bI P o a m.w b6:=by
 subst hij hij'
 have hc:=hE.sC.2.2
 have:=kX (P:=P) (w:=m.w) hT ad l.length cap j j' (some (.int k j)) (some (.int k' j')) (by simp only[Instr.sliceBounds,Sem.run_bind,Sem.run_pure,Result.andThen_ok,dQ (Nat.le_trans hj.2 hc),dQ hj.1])
 unfold bI execOp
 simp only[ho,ak,Option.map_none,hK.ev hx,hK.ev hy,hK.ev hz,Sem.run_bind,this,Result.andThen_ok,Sem.run_pure]
 rw[bh,aM,Nat.min_eq_left hj.2]at hp;exact hp
end
section
variable {P:Program}{o:Oper}{a:Act}{K:Kt}{ds:List Deferred}{B:List Nat}{m0 m:Mem}{L:List bR}{b6:Value->World->Prop}{x y:Operand}{t t' e:TypeId}{w:World}{ρ:Operand->Value}
theorem zX{ad:Option Addr}{n c:Nat}(ho:o.op=.binOp .eql t x y t')(hx:ρ x=.slice ad n c)(hy:ρ y=.slice none 0 0)(hu:P.underlying t=some (.slice e)):(execOp ρ o).run P w=.ok (.value (.bool ad.isNone)) w:=by
 have h:=Lib.run_eql_slice_nil (P:=P) w t e ad n c 0 0 hu;unfold execOp;simp only[ho,hx,hy,eqGuard,Sem.run_bind,Bool.not_true,aH,if_false,Sem.run_pure,Result.andThen_ok,h]
theorem zY{ad:Option Addr}{n c:Nat}(ho:o.op=.binOp .neq t x y t')(hx:ρ x=.slice ad n c)(hy:ρ y=.slice none 0 0)(hu:P.underlying t=some (.slice e)):(execOp ρ o).run P w=.ok (.value (.bool (!ad.isNone))) w:=by
 have h:=run_neq_slice_nil_any (P:=P) w t e ad n c 0 0 hu;unfold execOp;simp only[ho,hx,hy,eqGuard,Sem.run_bind,Bool.not_true,aH,if_false,Sem.run_pure,Result.andThen_ok,h]
theorem dM.xX{α:Type}{R:Mem->α->List Value->Prop}{sz cap:Nat}{l:List α}(h:dM R m sz none cap l):l=[]:=by
 obtain⟨css,h1,h2,_⟩:=h;have:=h1.2.2.2.1 rfl;exact bq (by have:=h1.2.1;omega)
theorem dM.Dc{α:Type}{R:Mem->α->List Value->Prop}{ad:Option Addr}{sz cap:Nat}{l:List α}(h:dM R m sz ad cap l)(hn:ad.isNone=true):l=[]:=by
 cases ad with
 |none=>exact h.xX
 |some _=>cases hn
theorem MM{css:List (List Value)}:∀{l:List UInt8},css.length=l.length->(∀(i:Nat) (x:UInt8) (cs:List Value),l[i]?=some x->css[i]?=some cs->cs.length=1/\rI m x cs)->css.flatten=l.map U8:=by
 induction css with
 |nil=>intro l h _;cases l<;>simp_all
 |cons c css ih=>
  intro l h hh
  cases l with
  |nil=>simp at h
  |cons x l=>
   have h0:=(hh 0 x c rfl rfl).2
   unfold rI at h0
   subst h0
   rw[List.flatten_cons,aF,ih (by simpa using h) (fun i x cs hx hc=>hh (i+1) x cs (by simpa using hx) (by simpa using hc))]
   rfl
theorem dM.X4{ad:Option Addr}{cap:Nat}{l:List UInt8}(h:dM rI m 1 ad cap l):Sl m 1 ad l.length cap (l.map U8):=by
 obtain⟨css,h1,h2,h3⟩:=h;rw[MM h2 h3]at h1;exact h1
theorem QC{ad:Option Addr}{cap:Nat}{bs:List UInt8}(ho:o.op=.convert t t' x)(hx:ρ x=.slice ad bs.length cap)(hs:P.underlying t=some (.slice e))(he:P.underlying e=some (.int .u8))(hd:P.underlying t'=some .string)(hE:dM rI m 1 ad cap bs):
 (execOp ρ o).run P m.w=.ok (.value (.string ⟨bs.toArray⟩)) m.w:=by
 have h:(convert t t' (.slice ad bs.length cap)).run P m.w=.ok (.string ⟨bs.toArray⟩) m.w:=by
  rw[run_convert_bytes_string m.w t t' e ad bs.length cap hs he hd]
  cases ad with
  |none=>
   have:bs=[]:=hE.xX
   subst this
   simp[Conv.bytesToString];rfl
  |some ad=>
   have hsl:=hE.X4
   have hls:(loadCells ad bs.length).run P m.w=.ok ((bs.map fun c=>(c.toNat:Int)).map (Value.int .u8)).toArray m.w:=by
    have:=run_loadCells_list (P:=P) m.w ad (bs.map U8) (fun j v hj=>by
     obtain⟨b,o,ha,_,hc⟩:=hsl.2.2.2.2 j v hj;cases ha;rw[Addr.add_mid];exact hc)
    rw[aQ]at this;rw[this,List.map_map];rfl
   rw[run_bytesToString m.w ad bs.length cap _ hls,foldl_push_bytes]
   congr 2
   simp[ByteArray.empty,ByteArray.emptyWithCapacity,List.map_map,Function.comp_def]
   rfl
 unfold execOp
 simp only[ho,hx,Sem.run_bind,h,Result.andThen_ok,Sem.run_pure]
theorem Xp(x y:List UInt8):((⟨x.toArray⟩:ByteArray).toList == (⟨y.toArray⟩:ByteArray).toList)=decide (x=y):=by
 rw[ByteArray.toList_eq,ByteArray.toList_eq,Bool.eq_iff_iff];simp
end
def ot(f:Nat->UInt8):Array Value:=((List.range 32).map fun i=>Value.int .u8 ((f i).toNat:Int)).toArray
section
variable {P:Program}{o:Oper}{x y:Operand}{t t' e:TypeId}{w:World}{ρ:Operand->Value}{op:BinOp}
theorem rZ{xs ys:Array Value}{v:Value}(ho:o.op=.binOp op t x y t')(hx:ρ x=.agg xs)(hy:ρ y=.agg ys)(hg:P.eqGuardType P.depth t=false)(h:(binOp op t (.agg xs) (.agg ys)).run P w=.ok v w):(execOp ρ o).run P w=.ok (.value v) w:=by
 have h2:(eqGuard op t x y (.agg xs) (.agg ys)).run P w=.ok () w:=by
  unfold eqGuard;cases op<;>simp[program,Sem.run,hg]
 unfold execOp;simp only[ho,hx,hy,Sem.run_bind,h2,Result.andThen_ok,h,Sem.run_pure]
theorem tP(d:Nat)(he:P.underlying e=some (.int .u8))(f g:Nat->UInt8):∀(is:List Nat),(∀i∈is,i<32)->(Op.eqItems (d+1) e 1 (ot f) (ot g) is).run P w=.ok (is.all fun i=>f i == g i) w
 |[],_=>by simp[Op.eqItems]
 |i::is,h=>by
  have hi:=h i (by simp);have hp:∀f:Nat->UInt8,(part e (ot f) (i*1)).run P w=.ok (.int .u8 ((f i).toNat:Int)) w:=fun f=>by
   have hc:(ot f)[i]?=some (.int .u8 ((f i).toNat:Int)):=by simp[ot,hi]
   simp[part,kW he,vZ,Nat.mul_one,hc]
  have ih:=tP d he f g is (fun j hj=>h j (by simp[hj]));have hb:(((f i).toNat:Int) == ((g i).toNat:Int))=(f i == g i):=by
   rw[Bool.eq_iff_iff];simp;exact⟨fun h=>UInt8.toNat_inj.1 (by omega),fun h=>by rw[h]⟩
  simp only[Op.eqItems,Sem.run_bind,hp,Result.andThen_ok,run_equalIn_int w d e .u8 .u8 _ _ he,hb,List.all_cons];cases f i == g i
  . simp
  . simp[ih]
theorem D0(hu:P.underlying t=some (.array 32 e))(he:P.underlying e=some (.int .u8))(hs:fD P e=some (false,1))(f g:Nat->UInt8):(binOp .eql t (.agg (ot f)) (.agg (ot g))).run P w=.ok (.bool (tu f g)) w:=by
 obtain⟨dd,i,hu',hi,hd,hsz⟩:=js hs;have hc:P.cellsOf e=1:=by simp[Program.cellsOf,hi,hsz]
 have h:=run_equalIn_array (P:=P) w 9999 (ot f) (ot g) hu hi;rw[hc,tP 9998 he f g (List.range 32) (fun i hi=>by simpa using hi)]at h;rw[run_eql_struct,h];rfl
end
section
variable {P:Program}{o:Oper}{a:Act}{K:Kt}{ds:List Deferred}{B:List Nat}{m0 m:Mem}{L:List bR}{b6:Value->World->Prop}{x y z:Operand}{t kt et:TypeId}
theorem zZ(_hK:Ke a K)(hS:St B m0 m L)(ho:o.op=.makeMap t none)
 (hp:∀m' b,Le m m'->St B m0 m' (.obj b (.map #[] 0)::L)->b6 (.map (some b)) m'.w):bI P o a m.w b6:=by
 unfold bI execOp
 simp only[ho,Option.map_none,run_makeMap,Sem.run_bind,Sem.run_pure,Result.andThen_ok]
 have h:=hS.new (o:=.map #[] 0) rfl (.obj m.w.heap.size (.map #[] 0)) rfl (eu _ _)
 exact hp _ _ (St.new (St.refl (Ow.nil m)) (o:=.map #[] 0) rfl (.obj m.w.heap.size (.map #[] 0)) rfl (eu _ _)).le h
end
section
variable {P:Program}{o:Oper}{a:Act}{K:Kt}{ds:List Deferred}{B:List Nat}{m0 m:Mem}{L:List bR}{b6:Value->World->Prop}{x:Operand}{t e:TypeId}
theorem Jj(w:World)(p:Addr)(n:Nat)(q:Addr):(w.freeze p n).cell? q=w.cell? q:=by
 unfold World.freeze;split
 . rfl
 unfold World.cell?;simp only[Array.getElem?_modify];by_cases h:p.block=q.block
 . rw[if_pos h]
   cases hq:w.heap[q.block]? with
   |none=>rfl
   |some ob=>cases ob<;>rfl
 . rw[if_neg h]
theorem G0(w:World)(p:Addr)(n k:Nat)(h:k≠p.block):(w.freeze p n).heap[k]?=w.heap[k]?:=by
 unfold World.freeze;split
 . rfl
 simp only[Array.getElem?_modify];rw[if_neg (fun e=>h e.symm)]
theorem Jk(w:World)(p:Addr)(n:Nat):(w.freeze p n).heap.size=w.heap.size:=by
 unfold World.freeze;split
 . rfl
 . simp
end
end
section
open Go.RowKit
namespace D
def writer(ops:Array Oper)(t:Tmp):Option Nat:=(List.range ops.size).find? fun i=>(ops[i]?).bind (·.dst) == some t
inductive XB(ops:Array Oper)(i:Nat):Nat->Prop
 |at_ {j:Nat} {o:Oper} {e:Edge}:ops[j]?=some o->e∈o.after->Region.binds .any e=true->e.on=i->XB ops i j
 |step {j:Nat} {o:Oper} {e:Edge}:ops[j]?=some o->e∈o.after->Region.binds .any e=true->XB ops i e.on->XB ops i j
def IX(i:Nat):List Oper->Nat->Nat->Nat
 |[],_,acc=>acc
 |o::os,j,acc=>cond (o.after.any fun e=>Region.binds .any e&&(Nat.beq e.on i||acc.testBit e.on)) (IX i os (j+1) (acc ||| 1 <<< j)) (IX i os (j+1) acc)
def pO(ops:Array Oper)(i j:Nat):Bool:=(IX i ops.toList 0 0).testBit j
theorem Vv{α:Type}{xs:Array α}{p:α->Bool}(h:xs.any p=true):∃e,e∈xs/\p e=true:=by
 rw[<- Array.any_toList,bC]at h;obtain⟨e,he,hp⟩:=h;exact⟨e,by simpa using he,hp⟩
theorem sQ{ops:Array Oper}{i:Nat}:∀(os:List Oper) (j acc:Nat),os=ops.toList.drop j->(∀k,acc.testBit k=true->XB ops i k)->∀k,(IX i os j acc).testBit k=true->XB ops i k
 |[],_,_,_,h,k,hk=>h k hk
 |o::os,j,acc,hd,h,k,hk=>by
  have ho:ops[j]?=some o:=by
   have h1:(o::os)[0]?=(ops.toList.drop j)[0]?:=by rw[hd]
   rw[List.getElem?_drop]at h1;simpa using h1.symm
  have hd':os=ops.toList.drop (j+1):=by rw[<- List.drop_drop,<- hd];rfl
  unfold IX at hk;cases hc:(o.after.any fun e=>Region.binds .any e&&(Nat.beq e.on i||acc.testBit e.on))with
  |false=>rw[hc]at hk;exact sQ os (j+1) acc hd' h k hk
  |true=>
   rw[hc]at hk
   refine sQ os (j+1) _ hd' (fun q hq=>?_) k hk
   rw[Nat.testBit_or,Bool.or_eq_true]at hq
   rcases hq with hq|hq
   . exact h q hq
   . have:q=j:=by
      simp only[Nat.testBit_shiftLeft,al,aJ,ge_iff_le,Nat.testBit_one_eq_true_iff_self_eq_zero]at hq;omega
     subst this
     obtain⟨e,he,hee⟩:=Vv hc
     simp only[al,Bool.or_eq_true,Nat.beq_eq]at hee
     rcases hee.2 with h2|h2
     . exact .at_ ho he hee.1 h2
     . exact .step ho he hee.1 (h _ h2)
theorem ur{ops:Array Oper}{i j:Nat}(h:pO ops i j=true):XB ops i j:=sQ ops.toList 0 0 rfl (fun k hk=>by simp at hk) j h
def UA(ops:Array Oper)(n i:Nat):Bool:=
 match ops[i]? with
 |none=>true
 |some o=>
  (match o.dst with|some d=>writer ops d == some i&&decide (d<n)|none=>true)&&
  (o.after.all fun e=>!Region.binds .any e||decide (e.on<i))&&
  ((o.looksAt ops).all fun t=>match writer ops t with|none=>true|some j=>pO ops j i||pO ops i j||j == i)
def tidy(ops:Array Oper)(n:Nat):Bool:=(List.range ops.size).all (UA ops n)
section
variable {ops:Array Oper}{n:Nat}
theorem Aq{t:Tmp}{j:Nat}(h:writer ops t=some j):∃o,ops[j]?=some o/\o.dst=some t:=by
 have:=List.find?_some h;simp only[beq_iff_eq]at this
 cases ho:ops[j]? with
 |none=>simp[ho]at this
 |some o=>exact⟨o,rfl,by simpa[ho]using this⟩
def l8(l:Array Bool)(i:Nat):Prop:=l.getD i false=true
theorem rH{l:Array Bool}{i:Nat}(hi:i<l.size):l.getD i true=false↔¬ l8 l i:=by
 unfold l8;simp[hi]
theorem pY(n i:Nat):¬ l8 (Array.replicate n false) i:=by
 unfold l8;by_cases h:i<n<;>simp[h]
def left(ops:Array Oper)(l:Array Bool):Nat:=(List.range ops.size).countP fun i=>l.getD i true == false
theorem ji{l:Array Bool}{i:Nat}(hi:i<l.size)(k:Nat):l8 (l.setIfInBounds i true) k↔k=i\/l8 l k:=by
 unfold l8;by_cases h:i=k
 . subst h;simp[hi]
 . rw[Go.getD_set_ne false h];simp[Ne.symm h]
theorem Fb{p q:Nat->Bool}:∀(L:List Nat) (i:Nat),i∈L->(∀x,q x=true->p x=true)->p i=true->q i=false->L.countP q<L.countP p
 |[],i,h,_,_,_=>by cases h
 |x::L,i,h,hpq,hp,hq=>by
  by_cases hx:x=i
  . subst hx;rw[List.countP_cons_of_pos hp,List.countP_cons_of_neg (by simp[hq])];exact Nat.lt_succ_of_le (List.countP_mono_left fun y _ hy=>hpq y hy)
  . have hm:i∈L:=by cases h with|head=>exact absurd rfl hx|tail _ h=>exact h
    have:=Fb L i hm hpq hp hq;by_cases hqx:q x=true
    . rw[List.countP_cons_of_pos hqx,List.countP_cons_of_pos (hpq x hqx)];omega
    . rw[List.countP_cons_of_neg hqx];by_cases hpx:p x=true
      . rw[List.countP_cons_of_pos hpx];omega
      . rw[List.countP_cons_of_neg hpx];omega
theorem xI{l:Array Bool}{i:Nat}(hl:l.size=ops.size)(hi:i<ops.size)(h:¬ l8 l i):left ops (l.setIfInBounds i true)<left ops l:=by
 refine Fb _ i (List.mem_range.2 hi) (fun x hx=>?_) ?_ ?_
 . by_cases e:i=x
   . subst e;simp[hl,hi]at hx
   . rw[Go.getD_set_ne true e]at hx;exact hx
 . simp only[beq_iff_eq];exact(rH (by omega)).2 h
 . simp[hl,hi]
theorem iU{a:Act}{d:Tmp}{v:Value}(h:d<a.tmps.size):(a.put (some d) v).eval (.tmp d)=v:=by
 simp[Act.eval,Act.put,h]
theorem pJ(h:tidy ops n=true){i:Nat}{o:Oper}(ho:ops[i]?=some o):
 (∀d,o.dst=some d->writer ops d=some i/\d<n)/\(∀e∈o.after,Region.binds .any e=true->e.on<i)/\
 (∀t∈o.looksAt ops,∀j,writer ops t=some j->pO ops j i=true\/pO ops i j=true\/j=i):=by
 have hi:i<ops.size:=(Array.getElem?_eq_some_iff.1 ho).1
 have h1:=aE.1 h i (List.mem_range.2 hi)
 simp only[UA,ho,al]at h1
 obtain⟨⟨h1,h2⟩,h3⟩:=h1
 refine⟨fun d hd=>?_,fun e he hb=>?_,fun t ht j hj=>?_⟩
 . simp only[hd,al,beq_iff_eq,aJ]at h1;exact h1
 . have:=Array.all_eq_true_iff_forall_mem.1 h2 e he
   simpa[hb]using this
 . have:=aE.1 h3 t ht
   simp only[hj,Bool.or_eq_true,beq_iff_eq]at this
   rcases this with(h|h)|h
   . exact .inl h
   . exact .inr (.inl h)
   . exact .inr (.inr h)
theorem Cf(ht:tidy ops n=true){l:Array Bool}(hl:l.size=ops.size)(hr:Region.ready .any ops l=[]):∀i,i<ops.size->l8 l i:=by
 intro i
 induction i using Nat.strongRecOn with
 |_ i ih=>
  intro hi
  refine bm fun hn=>?_
  have ho:ops[i]?=some ops[i]:=by simp[hi]
  have:i∈Region.ready .any ops l:=Go.mem_ready.2 ⟨(rH (by omega)).2 hn,ops[i],ho,fun e he hb=>ih e.on ((pJ ht ho).2.1 e he hb) (by have:=(pJ ht ho).2.1 e he hb;omega)⟩
  rw[hr]at this;cases this
theorem Nf{l:Array Bool}(hc:∀j o,ops[j]?=some o->l8 l j->∀e∈o.after,Region.binds .any e=true->l8 l e.on){i j:Nat}(h:XB ops i j):(∀o,ops[j]?=some o->∀e∈o.after,Region.binds .any e=true->l8 l e.on)->l8 l i:=by
 induction h with
 |at_ ho he hb h=>intro hall;exact h▸hall _ ho _ he hb
 |step ho he hb _ ih=>intro hall;exact ih fun o' ho'=>hc _ o' ho' (hall _ ho _ he hb)
theorem nQ{l:Array Bool}(hc:∀j o,ops[j]?=some o->l8 l j->∀e∈o.after,Region.binds .any e=true->l8 l e.on)(i j:Nat)(o:Oper)(ho:ops[j]?=some o)
 (hall:∀e∈o.after,Region.binds .any e=true->l8 l e.on) (h:pO ops i j=true):l8 l i:=
 Nf hc (ur h) fun o' ho'=>by rw[ho]at ho';cases ho';exact hall
end
abbrev Rs:=List (Value->World->Prop)
def at_(rs:Rs)(i:Nat):Value->World->Prop:=if i<rs.length then rs.getD (rs.length-1-i) (fun _ _=>True)else fun _ _=>True
end D
end
section
open Go.RowKit G
section
variable {P:Program}{Q:Exit->Act->World->Prop}{rr:Option Nat}{n:Nat}{a:Act}{K:Kt}{ds:List Deferred}{w:World}
theorem UH{x:Code}(J:Act->World->Prop)(hj:∀a w,J a w->Q .normal a w)(h:x.wpIn (FW rr) 0 P (Exit.then J Q) a w):x.wpIn (FW rr) 0 P Q a w:=
 wpIn_mono h fun e a' w' hq=>by cases e<;>first|exact hj _ _ hq|exact hq
theorem Xv{σ A:Type}{f:σ->Option (σ⊕A)}{s0:σ}{r:A}{c:Code}(h:Iter f s0=some r)(I:σ->Act->World->Prop)(h0:I s0 a w)
 (round:∀k s x a w,I s a w->f s=some x->IA f k r x->c.wpIn (FW rr) 0 P (Exit.then (fun a' w'=>∃k',k'<k/\∃s',nP f k' s' r/\I s' a' w') Q) a w):(Code.loop c).wpIn (FW rr) 0 P Q a w:=by
 obtain⟨k,hk⟩:=jY.1 h
 refine UI (fun k a w=>∃s,nP f k s r/\I s a w) ⟨k,s0,hk,h0⟩ ?_
 rintro k a w ⟨s,hl,hI⟩
 cases k with
 |zero=>exact hl.elim
 |succ k=>
  obtain⟨x,hx,hl⟩:=hl
  refine round (k+1) s x a w hI hx ?_
  cases x with
  |inl s'=>exact⟨k,Nat.lt_succ_self k,hl⟩
  |inr a=>exact hl
theorem Ww{σ A:Type}{f:σ->Option (σ⊕A)}{k:Nat}{r:A}{s':σ}{I:σ->Act->World->Prop}(h:IA f k r (.inl s'))(hI:I s' a w):∃k',k'<k/\∃s',nP f k' s' r/\I s' a w:=by
 obtain⟨k',h1,h2⟩:=h;exact⟨k',h1,s',h2,hI⟩
end
section
variable {P:Program}{o:Oper}{n:Nat}{a:Act}{K:Kt}{ds:List Deferred}{B:List Nat}{m0 m:Mem}{L:List bR}{b6:Value->World->Prop}{x y z:Operand}{t e:TypeId}{α:Type}{R:Mem->α->List Value->Prop}{sz:Nat}{zv:Value}{bytes cap:Nat}{ad:Option Addr}{l l':List α}
theorem abB{k:IntKind}{i:Int}{u:α}(hT:dE P t e zv sz bytes)(hE:dM R m sz ad cap l)(hx:idx l i=some u)(hK:Ke a K)(ho:o.op=.indexAddr t x y)(hxx:gV K x=some (.slice ad l.length cap))(hy:gV K y=some (.int k i))
 (hp:∀b p cs,R m u cs->At m b p cs->b6 (.pointer (some ⟨b,p,none⟩)) m.w):bI P o a m.w b6:=by
 obtain⟨j,hij,hj⟩:=tv hx
 have hjl:j<l.length:=(List.getElem?_eq_some_iff.1 hj).1
 have hu:l[j]=u:=(List.getElem?_eq_some_iff.1 hj).2
 haveI:Inhabited α:=⟨u⟩
 refine Xc hT hE j hK ho hxx hy hij hjl fun b p cs hR hA=>hp b p cs ?_ hA
 rw[getElem!_pos l j hjl,hu]at hR;exact hR
theorem QH{k:IntKind}{i:Int}(hT:dE P t e zv sz bytes)(hE:dM R m sz ad cap l)(hx:jP l i=some l')(hK:Ke a K)(ho:o.op=.slice t x (some y) none none)(hxx:gV K x=some (.slice ad l.length cap))(hy:gV K y=some (.int k i))
 (hp:∀a' c',dM R m sz a' c' l'->b6 (.slice a' l'.length c') m.w):bI P o a m.w b6:=by
 obtain⟨j,hij,hj,rfl⟩:=yh hx
 exact A5 hT hE j hij hK ho hxx hy hj (hp _ _ (hE.from j hj))
theorem Xd{k:IntKind}{i:Int}(hT:dE P t e zv sz bytes)(hE:dM R m sz ad cap l)(hx:qO l i=some l')(hK:Ke a K)(ho:o.op=.slice t x none (some y) none)(hxx:gV K x=some (.slice ad l.length cap))(hy:gV K y=some (.int k i))
 (hp:∀a' c',dM R m sz a' c' l'->b6 (.slice a' l'.length c') m.w):bI P o a m.w b6:=by
 obtain⟨j,hij,hj,rfl⟩:=wv hx
 exact QJ hT hE j hij hK ho hxx hy hj (hp _ _ (hE.upto j hj))
theorem Ua{k k':IntKind}{i i':Int}(hT:dE P t e zv sz bytes)(hE:dM R m sz ad cap l)(hx:tX l i i'=some l')(hK:Ke a K)(ho:o.op=.slice t x (some y) (some z) none)(hxx:gV K x=some (.slice ad l.length cap))(hy:gV K y=some (.int k i))(hz:gV K z=some (.int k' i'))
 (hp:∀a' c',dM R m sz a' c' l'->b6 (.slice a' l'.length c') m.w):bI P o a m.w b6:=by
 obtain⟨p,q,hip,hiq,hpq,hq,rfl⟩:=A9 hx
 exact MC hT hE p q hip hiq hK ho hxx hy hz ⟨hpq,hq⟩ (hp _ _ (hE.cut p q hpq hq))
theorem aby{g:Option Nat}{cap2:Nat}{l2:List α}{a2:Option Addr}(hT:dE P t e zv sz bytes)(hR:oY R sz)(hx:app bytes l l2=some l')(hK:Ke a K)(k:Nat)(hS:St B m0 m L)(hk:L[k]?=some (rowOf e sz g cap l))(hE:dM R m sz (fP g) cap l)(hE2:dM R m sz a2 cap2 l2)
 (ho:o.op=.call ⟨.builtin .append,#[x,y],#[t,t]⟩) (hxx:gV K x=some (.slice (fP g) l.length cap)) (hy:gV K y=some (.slice a2 l2.length cap2)) (hb:decide (1<=bytes)=true)
 (hp:∀m' g' cap',Le m m'->St B m0 m' (rowOf e sz g' cap' l'::L.eraseIdx k)->dM R m' sz (fP g') cap' l'->b6 (.slice (fP g') l'.length cap') m'.w):bI P o a m.w b6:=by
 obtain⟨h1,rfl⟩:=nT hx
 have h2:l.length+l2.length<=(l.length+l2.length)*bytes:=Nat.le_mul_of_pos_right _ (aZ hb)
 exact T8 hT hR hK k hS hk hE hE2 ho hxx hy h1 hp (by unfold maxLen;omega)
theorem BV(hR:oY R sz)(hS:St B m0 m L){l2:List α}{css dss:List (List Value)}(h2:css.length=l.length)(h4:∀(i:Nat) (x:α) (cs:List Value),l[i]?=some x->css[i]?=some cs->cs.length=sz/\R m x cs)
 (k2:dss.length=l2.length) (k4:∀(i:Nat) (x:α) (cs:List Value),l2[i]?=some x->dss[i]?=some cs->cs.length=sz/\R m x cs) (hxl:css.flatten.length=l.length*sz) (hyl:dss.flatten.length=l2.length*sz)
 {cap':Nat} {cur:Array Value} (hcs:cur.size=cap'*sz) (hge:l.length+l2.length<=cap') (hcm:cap'<=maxLen) (htake:cur.toList.take ((l.length+l2.length)*sz)=css.flatten++dss.flatten):
 ∃m':Mem,m'.w=m.w.drew.alloc (.cells cur e (0,0))/\Le m m'/\St B m0 m' (rowOf e sz (some m.w.heap.size) cap' (l++l2)::L)/\dM R m' sz (fP (some m.w.heap.size)) cap' (l++l2):=by
 obtain⟨f2,f4⟩:=vW h2 h4 k2 k4
 have hll:(l++l2).length=l.length+l2.length:=by simp
 have hg:Below m.w.heap.size m.w (m.w.drew.alloc (.cells cur e (0,0))):=((Below.refl _ _).drew).alloc (Nat.le_refl _) _
 have hb':(m.w.drew.alloc (.cells cur e (0,0))).heap[m.w.heap.size]?=some (.cells cur e (0,0)):=heap_alloc_new m.w.drew _
 let X:Nat->Nat->Prop:=fun c o=>c=m.w.heap.size/\o<(l++l2).length*sz
 have hle:Le m ⟨m.w.drew.alloc (.cells cur e (0,0)),fun c o=>m.ok c o\/X c o⟩:=
  ⟨rfl,rfl,rfl,Below.size hg,fun c o hc=>⟨⟨.inl hc,Nat.lt_of_lt_of_le hc.2 (Below.size hg)⟩,uE hg hc.2⟩⟩
 have k:St [] m ⟨m.w.drew.alloc (.cells cur e (0,0)),fun c o=>m.ok c o\/X c o⟩ [rowOf e sz (some m.w.heap.size) cap' (l++l2)]:=by
  refine⟨hle,fun c hc _=>Below.block hg c hc,fun c o hc=>?_,⟨by simp[rowOf,bR.row],fun x hx=>?_,fun x hx c hc o ho hm=>?_⟩,fun c hc=>?_⟩
  . rcases hc.1 with h|h
    . exact .inl h
    . exact .inr (.inl (by rw[h.1];exact Nat.le_refl _))
  . simp at hx;subst hx;intro c hc;cases hc;exact⟨cur,hb',hcs⟩
  . simp at hx;subst hx;simp[rowOf,bR.row]at hc;subst hc;have ho':(l++l2).length*sz<=o:=ho;rcases hm.1 with h|h
    . exact absurd h.2 (by simp)
    . have h2:o<(l++l2).length*sz:=h.2;omega
  . simp[rowOf,bR.row]at hc;subst hc;exact .inr (Nat.le_refl _)
 have hE':dM R ⟨m.w.drew.alloc (.cells cur e (0,0)),fun c o=>m.ok c o\/X c o⟩ sz (fP (some m.w.heap.size)) cap' (l++l2):=by
  refine⟨css++dss,⟨?_,by simpa using hge,hcm,(fun h=>by cases h),fun j v hv=>⟨m.w.heap.size,0,rfl,⟨.inr ⟨rfl,?_⟩,by simp⟩,?_⟩⟩,f2,fun i x cs hx hc=>⟨(f4 i x cs hx hc).1,hR.mono (f4 i x cs hx hc).2 hle⟩⟩
  . simp only[bn,ay,hxl,hyl,aN]
  . have:j<(css++dss).flatten.length:=(List.getElem?_eq_some_iff.1 hv).1;simp only[bn,ay,hxl,hyl]at this;rw[hll,aN];omega
  . have hjl:j<(css++dss).flatten.length:=(List.getElem?_eq_some_iff.1 hv).1;simp only[bn,ay,hxl,hyl]at hjl;rw[cell_of_row _ _ _ _ _ _ hb',aL,<- Array.getElem?_toList];have e1:(cur.toList.take ((l.length+l2.length)*sz))[j]?=(css.flatten++dss.flatten)[j]?:=by rw[htake]
    rw[List.getElem?_take,if_pos (by rw[aN];omega)]at e1;rw[e1,<- bn];exact hv
 exact⟨_,rfl,hle,hS.call k,hE'⟩
theorem FY{cap2:Nat}{l2:List α}{a2:Option Addr}(hT:dE P t e zv sz bytes)(hR:oY R sz)(hx:app bytes l l2=some l')(hK:Ke a K)(hS:St B m0 m L)(hE:dM R m sz ad cap l)(hE2:Rc R m sz a2 cap2 l2)
 (ho:o.op=.call ⟨.builtin .append,#[x,y],#[t,t]⟩) (hxx:gV K x=some (.slice ad l.length cap)) (hy:gV K y=some (.slice a2 l2.length cap2)) (hb:decide (1<=bytes)=true) (hfull:cap<l.length+l2.length)
 (hp:∀m' g' cap',Le m m'->St B m0 m' (rowOf e sz g' cap' l'::L)->dM R m' sz (fP g') cap' l'->b6 (.slice (fP g') l'.length cap') m'.w):bI P o a m.w b6:=by
 obtain⟨hlen,rfl⟩:=nT hx
 have h2:l.length+l2.length<=(l.length+l2.length)*bytes:=Nat.le_mul_of_pos_right _ (aZ hb)
 have h63:l.length+l2.length<=maxLen:=by unfold maxLen;omega
 obtain⟨css,h1,h2,h4⟩:=hE
 obtain⟨dss,k1,k2,k4⟩:=hE2
 have hone:=nJ hR k2 k4
 have hll:(l++l2).length=l.length+l2.length:=by simp
 obtain⟨cap',cur,hrun,hcs,hge,hcm,htake⟩:=tN (P:=P) (ty:=o.type) hT ad l.length cap _ h1 a2 l2.length cap2 _ k1 hone hlen h63 hfull
 obtain⟨m',r1,r2,r3,r4⟩:=BV (e:=e) hR hS h2 h4 k2 k4 h1.1 k1.1 hcs hge hcm htake
 unfold bI execOp
 simp only[ho,resolve,invoke,builtin,Sem.run_bind,Sem.run_pure,Result.andThen_ok,aX,aF,bp,hK.ev hxx,hK.ev hy,hrun]
 have:=hp m' (some m.w.heap.size) cap' r2 r3 r4
 rw[hll,r1]at this
 exact this
theorem T7{cap2:Nat}{l2:List α}{a2:Option Addr}(hT:dE P t e zv sz bytes)(hR:oY R sz)(hx:app bytes l l2=some l')(hK:Ke a K)(hS:St B m0 m L)(hE:dM R m sz ad cap l)(hE2:dM R m sz a2 cap2 l2)
 (ho:o.op=.call ⟨.builtin .append,#[x,y],#[t,t]⟩) (hxx:gV K x=some (.slice ad l.length cap)) (hy:gV K y=some (.slice a2 l2.length cap2)) (hb:decide (1<=bytes)=true) (hfull:cap<l.length+l2.length)
 (hp:∀m' g' cap',Le m m'->St B m0 m' (rowOf e sz g' cap' l'::L)->dM R m' sz (fP g') cap' l'->b6 (.slice (fP g') l'.length cap') m'.w):bI P o a m.w b6:=
 FY hT hR hx hK hS hE hE2.src ho hxx hy hb hfull hp
theorem D1{b T size nn i c o0:Nat}(hK:Ke a K)(hS:St B m0 m (.row (some b) T size nn::L))(ho:o.op=.convert t t x)(hx:gV K x=some (.slice (some ⟨b,o0,none⟩) i c))(hu:P.underlying t=some (.slice e))(he:P.underlying e=some (.int .u8))
 (hp:∀m',Le m m'->St B m0 m' L->b6 (.slice (some ⟨b,o0,none⟩) i c) m'.w):bI P o a m.w b6:=by
 have hbn:b ∉ bK L:=by
  have:=hS.ow.nodup;rw[eJ]at this;simp[bR.row]at this;exact this.1
 have hbB:=hS.mQ b (by rw[eJ];simp[bR.row])
 have hS':=hS.drop
 have key:∀w':World,w'.os=m.w.os->w'.tape=m.w.tape->w'.output=m.w.output->w'.heap.size=m.w.heap.size->(∀q,w'.cell? q=m.w.cell? q)->(∀k,k≠b->w'.heap[k]?=m.w.heap[k]?)->b6 (.slice (some ⟨b,o0,none⟩) i c) w':=by
  intro w' h1 h2 h3 h4 h5 h6;have hle:Le m ⟨w',m.ok⟩:=⟨h1,h2,h3,Nat.le_of_eq h4.symm,fun b' o' hb'=>⟨⟨hb',by simpa[h4]using hb'.2⟩,h5 _⟩⟩;refine hp ⟨w',m.ok⟩ hle ⟨hS'.le.trans hle,fun b' hb' hB=>(h6 b' (fun e=>by subst e;rcases hbB with h|h;exact hB h;omega)).trans (hS'.kept b' hb' hB),fun b' o' ho'=>hS'.news b' o' ho'.1,⟨hS'.ow.nodup,fun e' he'=>e'.loc _ _ (hS'.ow.ok e' he') fun b' hb'=>h6 b' (fun e=>hbn (dg.2 ⟨e',he',e▸hb'⟩)),fun e' he' b' hb' o' hf hm=>hS'.ow.apart e' he' b' hb' o' hf hm.1⟩,hS'.mQ⟩
 have hrun:∃w',(convert t t (.slice (some ⟨b,o0,none⟩) i c)).run P m.w=.ok (.slice (some ⟨b,o0,none⟩) i c) w'/\b6 (.slice (some ⟨b,o0,none⟩) i c) w':=by
  show ∃w',(convert t t (.slice (some ⟨b,o0,none⟩) i c)).run P m.w=.ok (.slice (some ⟨b,o0,none⟩) i c) w'/\b6 (.slice (some ⟨b,o0,none⟩) i c) w';simp only[convert,Sem.run_bind,run_underlying hu,run_underlying he,Result.andThen_ok,beq_self_eq_true,markStringish,Go.shape,Sem.run]
  cases hsh:m.w.shape? b with
  |none=>exact⟨m.w,rfl,key _ rfl rfl rfl rfl (fun _=>rfl) (fun _ _=>rfl)⟩
  |some p=>
   have hz:∀(w:World) (p:Addr) (n:Nat),(w.freeze p n).os=w.os/\(w.freeze p n).tape=w.tape/\(w.freeze p n).output=w.output:=fun w p n=>by unfold World.freeze;split<;>exact⟨rfl,rfl,rfl⟩
   exact⟨m.w.freeze ⟨b,p.2,none⟩ 1,rfl,key _ (hz _ _ _).1 (hz _ _ _).2.1 (hz _ _ _).2.2 (Jk _ _ _) (fun q=>Jj _ _ _ _) (fun k hk=>G0 _ _ _ _ hk)⟩
 obtain⟨w',h1,h2⟩:=hrun
 unfold bI execOp
 simp only[ho,hK.ev hx,Sem.run_bind,h1,Result.andThen_ok,Sem.run_pure]
 exact h2
theorem Kd{b p n:Nat}{k:IntKind}{i:Int}(hT:P.underlying t=some (.array n e))(hs:(P.info? e).map (·.size)=some 1)(hi:0<=i/\i<(n:Int))(hK:Ke a K)(ho:o.op=.indexAddr t x y)(hx:gV K x=some (.pointer (some ⟨b,p,none⟩)))(hy:gV K y=some (.int k i))
 (hp:b6 (.pointer (some ⟨b,i.toNat+p,none⟩)) m.w):bI P o a m.w b6:=by
 have hsz:(sizeOf e).run P m.w=.ok 1 m.w:=by
  cases hi:P.info? e with
  |none=>simp[hi]at hs
  |some inf=>simp[hi]at hs;simp[sizeOf,typeInfo,hi,hs]
 unfold bI execOp
 simp only[ho,hK.ev hx,hK.ev hy,Instr.indexAt,asIntOf,Instr.sureAddr,Sem.run_bind,Sem.run_pure,Result.andThen_ok,run_underlying hT,hsz,hi,and_self,if_true,Nat.mul_one,Addr.add_mid]
 rw[Nat.add_comm];exact hp
theorem OL{op:BinOp}{k:IntKind}{i j:Int}{ρ:Operand->Value}{ty ty':TypeId}{v:Value}{w:World}(hj:¬ j=0)(ho:o.op=.binOp op ty x y ty')(hx:ρ x=.int k i)(hy:ρ y=.int k j)(hv:op=.quo/\v=.int k (k.wrap (i.tdiv j))\/op=.rem/\v=.int k (i.tmod j)):(execOp ρ o).run P w=.ok (.value v) w:=by
 rcases hv with⟨rfl,rfl⟩|⟨rfl,rfl⟩<;>simp[execOp,ho,hx,hy,binOp,Op.intDiv,hj,eqGuard]
end
theorem W8{P:Program}{o:Oper}{x y:Operand}{k k':IntKind}{i j:Int}{ρ:Operand->Value}{ty ty':TypeId}{w:World}(hj:0<=j)(ho:o.op=.binOp .shl ty x y ty')(hx:ρ x=.int k i)(hy:ρ y=.int k' j):(execOp ρ o).run P w=.ok (.value (.int k (Bt k i j))) w:=by
 have h:¬ j<0:=by omega
 simp[execOp,ho,hx,hy,binOp,Op.shift,h,eqGuard,Bt]
theorem W9{P:Program}{o:Oper}{x y:Operand}{k k':IntKind}{i j:Int}{ρ:Operand->Value}{ty ty':TypeId}{w:World}(hj:0<=j)(ho:o.op=.binOp .shr ty x y ty')(hx:ρ x=.int k i)(hy:ρ y=.int k' j):(execOp ρ o).run P w=.ok (.value (.int k (fR k i j))) w:=by
 have h:¬ j<0:=by omega
 simp[execOp,ho,hx,hy,binOp,Op.shift,h,eqGuard,fR]
theorem XI{k:IntKind}(hk:(k == .i8)=false)(c:UInt8):k.wrap (c.toNat:Int)=(c.toNat:Int):=by
 have:=c.toNat_lt;cases k<;>simp[IntKind.wrap,IntKind.bits,IntKind.signed]at hk ⊢ <;>omega
theorem Yq(c:UInt8):IntKind.u8.wrap (c.toNat:Int)=(c.toNat:Int):=XI rfl c
theorem MN{y:Int}(h:∃x,y=IntKind.u8.wrap x):y=((u8 y).toNat:Int):=by
 obtain⟨x,rfl⟩:=h;rw[oO,wu8];omega
theorem V7(c j:Nat):((c:Int).fdiv (2 ^ j))=((c/2 ^ j:Nat):Int):=by
 rw[Int.fdiv_eq_ediv_of_nonneg _ (Int.le_of_lt (Int.pow_pos (by decide)))];simp
theorem ZZ(c:UInt8)(y:Int):fR .u8 (c.toNat:Int) y=((u8 (fR .u8 (c.toNat:Int) y)).toNat:Int):=by
 have hc:=c.toNat_lt;have h:fR .u8 (c.toNat:Int) y=((c.toNat/2 ^ (min y.toNat 8):Nat):Int):=by unfold fR;exact V7 _ _
 have h2:c.toNat/2 ^ (min y.toNat 8)<=c.toNat:=Nat.div_le_self _ _;rw[h,oO];generalize c.toNat/2 ^ (min y.toNat 8)=q at *; omega
theorem Mu{P:Program}{t e:TypeId}{w:World}(hu:P.underlying t=some (.array 32 e))(he:P.underlying e=some (.int .u8))(hs:fD P e=some (false,1))(f g:Nat->UInt8):(binOp .neq t (.agg (ot f)) (.agg (ot g))).run P w=.ok (.bool (!tu f g)) w:=by
 have h:=D0 (w:=w) hu he hs f g;have h2:∀xs ys:Array Value,(binOp .eql t (.agg xs) (.agg ys)).run P w=.ok (.bool (tu f g)) w->(binOp .neq t (.agg xs) (.agg ys)).run P w=.ok (.bool (!tu f g)) w:=by
  intro xs ys h;simp only[binOp,Sem.run_bind]at h ⊢
  cases hr:(Op.equal t (.agg xs) (.agg ys)).run P w with
  |ok b w'=>rw[hr]at h;simp[Sem.run_pure,Result.andThen_ok]at h ⊢; obtain⟨h1,h2⟩:=h;subst h1;exact⟨rfl,h2⟩
  |halt x w'=>rw[hr]at h;simp[Result.andThen]at h
 exact h2 _ _ h
section
variable {P:Program}{ops:Array Oper}{o:Oper}{n:Nat}{a:Act}{K:Kt}{ds:List Deferred}{w:World}{rest:List Oper}{Q:Exit->Act->World->Prop}{rr:Option Nat}
theorem qs(d:Nat)(hK:Kn n a K ds)(h:∀a',Kn n a' ((d,undef)::K) ds->wpListIn (FW rr) 0 P ops Q rest a' w)(hc:Mc ops o K n d=true:=by kernel_rfl):wpListIn (FW rr) 0 P ops Q (o::rest) a w:=ZH d hK hc h
end
def isNum(k:IntKind)(_:Mem)(x:Int)(cs:List Value):Prop:=cs=[.int k x]
theorem OB(k:IntKind):oY (isNum k) 1:=⟨fun h _=>h,fun h=>by rw[h];rfl,fun h u hu=>by rw[h]at hu;simp at hu;subst hu;rfl,by decide⟩
def aa2(_:Mem)(x:Bool)(cs:List Value):Prop:=cs=[.bool x]
theorem TJ:oY aa2 1:=⟨fun h _=>h,fun h=>by rw[h];rfl,fun h u hu=>by rw[h]at hu;simp at hu;subst hu;rfl,by decide⟩
abbrev str(l:List UInt8):ByteArray:=⟨l.toArray⟩
def isStr(_:Mem)(x:List UInt8)(cs:List Value):Prop:=cs=[.string (str x)]
theorem OD:oY isStr 1:=⟨fun h _=>h,fun h=>by rw[h];rfl,fun h u hu=>by rw[h]at hu;simp at hu;subst hu;rfl,by decide⟩
def LQ{α:Type}(R:Mem->α->List Value->Prop)(sz:Nat)(m:Mem)(x:List α)(cs:List Value):Prop:=∃a c,cs=[.slice a x.length c]/\dM R m sz a c x
theorem Mp{α:Type}{R:Mem->α->List Value->Prop}{sz:Nat}(h:oY R sz):oY (LQ R sz) 1:=
 ⟨fun⟨a,c,h1,h2⟩ l=>⟨a,c,h1,dM.mono h h2 l⟩,fun⟨a,c,h1,_⟩=>by rw[h1];rfl,fun⟨a,c,h1,_⟩ u hu=>by rw[h1]at hu;simp at hu;subst hu;rfl,by decide⟩
end
section
open Go.RowKit G
namespace D
abbrev Ya:=List (List Nat)
def chain(chs:Ya)(c:Nat):List Nat:=chs.getD c []
end D
end
section
open IntKind(i64)
open Go.RowKit G
section
variable {α:Type}
def yB(enc:α->Value)(l:List α):Array Value:=(l.map enc).toArray
theorem F6(enc:α->Value)(l:List α):(yB enc l).size=l.length:=by simp[yB]
end
section
variable {P:Program}{o:Oper}{a:Act}{K:List (Nat×Value)}{B:List Nat}{m0 m:Mem}{L:List bR}{b6:Value->World->Prop}{t e:TypeId}{x y:Operand}{α:Type}
theorem QF(enc:α->Value)(z:α){bytes n:Nat}{k k':IntKind}{i:Int}(hT:dE P t e (enc z) 1 bytes)(hz:(enc z).oneCell'=true)(hK:Ke a K)(hS:St B m0 m L)(ho:o.op=.makeSlice t x y)(hx:gV K x=some (.int k i))(hy:gV K y=some (.int k' i))
 (hi:i=(n:Int)) (hn:n*bytes<=140737488355328) (hb:0<bytes)
 (hp:∀m' b,m.w.heap.size<=b->Le m m'->St B m0 m' (.box b (yB enc (List.replicate n z)) e::L)->b6 (.slice (some ⟨b,0,none⟩) n n) m'.w):bI P o a m.w b6:=by
 subst hi
 have hn':n<=140737488355328:=Nat.le_trans (Nat.le_mul_of_pos_right n hb) hn
 obtain⟨inf,hinf,hzr,hsz,hby⟩:=info_parts hT.info
 have hw:i64.wrap (n:Int)=(n:Int):=jQ (by omega) (by omega)
 have hnb:¬ ((bytes:Int)*(n:Int)>2 ^ 48):=by
  have:((n*bytes:Nat):Int)<=140737488355328:=by omega
  rw[Int.natCast_mul,Int.mul_comm]at this;omega
 have hrow:((Array.range n).map fun i=>(enc z).cells[i % (enc z).cells.size]!)=yB enc (List.replicate n z):=by
  have hc:(enc z).cells= #[enc z]:=by cases hv:enc z<;>rw[hv]at hz<;>first|rfl|cases hz
  rw[hc];apply Array.ext
  . simp[yB]
  . intro i hi hi';simp[yB,Nat.mod_one]
 have hz0:∀w:World,(zeroValue e).run P w=.ok (enc z) w:=fun w=>by simp[zeroValue,typeInfo,hinf,hzr]
 have h1:¬ ((n:Int)<0):=by omega
 have h2:¬ ((281474976710656:Int)<(bytes:Int)*(n:Int)):=by omega
 unfold bI execOp
 simp only[ho,hK.ev hx,hK.ev hy,Instr.makeSlice,asInt,asIntOf,Sem.run_bind,Sem.run_pure,Result.andThen_ok,run_underlying hT.gH]
 simp[typeInfo,sizeOf,newRow,newObj,hinf,hby,hw,hsz,h1,h2,decide_false,Bool.or_false,Bool.false_or,aH,if_false,Int.lt_irrefl,aG,Nat.mul_one,gt_iff_lt]
 by_cases h0:n=0
 . subst h0
   simp[Sem.run]
   have h:=hS.zH (yB enc (List.replicate 0 z)) e
   rw[show(Array.map (fun(_:Nat)=>(default:Value)) (Array.range 0))=yB enc (List.replicate 0 z)by simp[yB]]
   exact hp _ _ (Nat.le_refl _) (St.new (St.refl (Ow.nil m)) rfl (.box m.w.heap.size (yB enc (List.replicate 0 z)) e) rfl (eu _ _)).le h
 . simp[h0,hz0,hrow,Sem.run]
   have h:=hS.zH (yB enc (List.replicate n z)) e
   exact hp _ _ (Nat.le_refl _) (St.new (St.refl (Ow.nil m)) rfl (.box m.w.heap.size (yB enc (List.replicate n z)) e) rfl (eu _ _)).le h
end
end
section
open Go.RowKit
def Q1(Ds:List Nat):List Deferred:=Ds.map fun D=>{target:=.collected D,args:= #[]}
def bR.defs(Ds:List Nat):bR:=
 ⟨Ds,fun _ _=>True,fun w=>∀D∈Ds,w.heap[D]?=some (.deferred (some [])),fun _ h b hb=>mq (h b hb),fun w w' h hs D hD=>by rw[hs D hD];exact h D hD⟩
section
variable {B:List Nat}{m0 m:Mem}{L R:List bR}{e e' e1 e2:bR}
theorem St.turn(h:St B m0 m (e::R)){w':World}(ho:w'.os=m.w.os)(ht:w'.tape=m.w.tape)(hu:w'.output=m.w.output)(hsz:w'.heap.size=m.w.heap.size)
 (hk:∀c,c ∉ e.blocks->w'.heap[c]?=m.w.heap[c]?) (hall:∀b∈e.blocks,∀o,e.LH b o) (hb:∀b∈e'.blocks,b∈e.blocks) (hn:e'.blocks.Nodup) (hok:e'.ok w'):St B m0 ⟨w',m.ok⟩ (e'::R):=by
 have hap:∀b∈e.blocks,∀o,¬ m.ok b o:=fun b hb o=>h.ow.apart e (by simp) b hb o (hall b hb o)
 have k:St (bK [e]) m ⟨w',m.ok⟩ [e']:=by
  refine⟨⟨ho,ht,hu,by rw[hsz];exact Nat.le_refl _,fun c o hc=>⟨⟨hc,by simpa[hsz]using hc.2⟩,?_⟩⟩,fun c hc hn=>hk c (by simpa using hn),fun c o hc=>.inl hc.1,⟨by simpa using hn,fun x hx=>?_,fun x hx c hc o _ hm=>?_⟩,fun c hc=>?_⟩
  . have hne:c ∉ e.blocks:=fun hm=>hap c hm o hc
    show w'.cell? _=m.w.cell? _;unfold World.cell?;rw[hk c hne]
  . simp at hx;subst hx;exact hok
  . simp at hx;subst hx;exact hap c (hb c hc) o hm.1
  . simp at hc;exact .inl (by simpa using hb c hc)
 exact St.frame (L:=[e]) h k
theorem St.two(h:St B m0 m (e1::e2::R))(hb:e.blocks=e1.blocks++e2.blocks)(hok:e1.ok m.w->e2.ok m.w->e.ok m.w)(h1:∀b∈e1.blocks,∀o,e1.LH b o)(h2:∀b∈e2.blocks,∀o,e2.LH b o):St B m0 m (e::R):=by
 have hbl:bK (e::R)=bK (e1::e2::R):=by simp[hb]
 refine⟨h.le,h.kept,h.news,⟨by rw[hbl];exact h.ow.nodup,fun x hx=>?_,fun x hx b hbx o hf=>?_⟩,fun b hbx=>h.mQ b (by rw[<- hbl];exact hbx)⟩
 . simp at hx;rcases hx with rfl|hx
   . exact hok (h.ow.ok e1 (by simp)) (h.ow.ok e2 (by simp))
   . exact h.ow.ok x (by simp[hx])
 . simp at hx;rcases hx with rfl|hx
   . rw[hb]at hbx;rcases bj.1 hbx with h3|h3
     . exact h.ow.apart e1 (by simp) b h3 o (h1 b h3 o)
     . exact h.ow.apart e2 (by simp) b h3 o (h2 b h3 o)
   . exact h.ow.apart x (by simp[hx]) b hbx o hf
theorem St.aaA(h:St B m0 m L):St B m0 m (.defs []::L):=by
 have k:St [] m m [.defs []]:=⟨Le.refl m,fun _ _ _=>rfl,fun _ _ h=>.inl h,⟨by simp[bR.defs],fun x hx=>by simp at hx;subst hx;exact fun D hD=>by simp at hD,fun x hx b hb=>by simp at hx;subst hx;simp[bR.defs]at hb⟩,fun b hb=>by simp[bR.defs]at hb⟩;exact h.call k
theorem St.newObj(h:St B m0 m L)(o:Obj):St B m0 ⟨m.w.alloc o,m.ok⟩ (.obj m.w.heap.size o::L):=h.new rfl (.obj m.w.heap.size o) rfl (eu _ _)
theorem Le.alloc(m:Mem)(o:Obj):Le m ⟨m.w.alloc o,m.ok⟩:=(St.refl (Ow.nil m)).newObj o |>.le
theorem St.putObj{b:Nat}{o:Obj}(o':Obj)(h:St B m0 m L)(k:Nat)(hk:L[k]?=some (.obj b o)):Le m ⟨m.w.putObj b o',m.ok⟩/\St B m0 ⟨m.w.putObj b o',m.ok⟩ (.obj b o'::L.eraseIdx k):=by
 have hb:=h.JT k hk;have h1:=h.front k hk;have ho:(m.w.putObj b o').heap[b]?=some o':=World.putObj_heap_same (mq hb);have key:∀{B':List Nat} {m1:Mem},St B' m1 m (.obj b o::L.eraseIdx k)->St B' m1 ⟨m.w.putObj b o',m.ok⟩ (.obj b o'::L.eraseIdx k):=fun hh=>
  hh.turn rfl rfl rfl (by simp) (fun c hc=>World.putObj_heap_other (by intro e;subst e;exact hc (by simp[bR.obj]))) (fun _ _ _=>trivial) (fun c hc=>hc) (by simp[bR.obj]) ho
 refine⟨?_,key h1⟩;have:=key (St.refl h1.ow);exact this.le
end
structure E1(R:LoopState->Option Code->Loop)(ps:Array Tmp)(tmps:Array Value)(fC body:Code):Prop where
 ex:∃fn D,R=fun st pe=>{state:=st,pending:=pe,fn:=fn,tmps:=tmps,params:=ps,assign:=fC,body:=body,defers:=D}
section
variable {P:Program}{Q:Exit->Act->World->Prop}{n n0:Nat}{a:Act}{K K0:Kt}{B:List Nat}{m0 m:Mem}{L:List bR}{ds:List Deferred}
theorem WY{R:LoopState->Option Code->Loop}{ps:Array Tmp}{tmps:Array Value}{fC body:Code}{l k:Nat}{X:World->Prop}(hR:E1 R ps tmps fC body)(hS:St B m0 m L)(hk:L[k]?=some (.obj l (.loop (R .ready none))))
 (h:∀m1,Le m m1->St B m0 m1 (.obj l (.loop (R .busy none))::L.eraseIdx k)->X m1.w):∃w3,(Instr.beginRound l).run P m.w=.ok () w3/\X w3:=by
 obtain⟨fn,D,rfl⟩:=hR.ex
 obtain⟨h1,h2⟩:=hS.putObj (.loop {state:=.busy,pending:=none,fn:=fn,tmps:=tmps,params:=ps,assign:=fC,body:=body,defers:=D}) k hk
 exact⟨_,run_beginRound (hS.JT k hk) rfl,h _ h1 h2⟩
theorem W4{R:LoopState->Option Code->Loop}{ps:Array Tmp}{tmps:Array Value}{fC body:Code}{l k:Nat}(jump:Option Code)(hR:E1 R ps tmps fC body)(hS:St B m0 m L)(hk:L[k]?=some (.obj l (.loop (R .busy none)))):
 ∃m1,(Instr.endRound l jump).run P m.w=.ok (.bool jump.isNone) m1.w/\Le m m1/\St B m0 m1 (.obj l (.loop (R (if jump.isNone then .ready else .done) jump))::L.eraseIdx k):=by
 obtain⟨fn,D,rfl⟩:=hR.ex
 obtain⟨h1,h2⟩:=hS.putObj (.loop {state:=if jump.isNone then .ready else .done,pending:=jump,fn:=fn,tmps:=tmps,params:=ps,assign:=fC,body:=body,defers:=D}) k hk
 exact⟨_,run_endRound jump (hS.JT k hk),h1,h2⟩
section
variable {R:LoopState->Option Code->Loop}{ps:Array Tmp}{tmps:Array Value}{fC body:Code}{l k:Nat}{next:Bool->World->Prop}
theorem TR(st:LoopState)(pe:Option Code)(hst:st≠ .busy)(hR:E1 R ps tmps fC body)(hS:St B m0 m L)(hk:L[k]?=some (.obj l (.loop (R st pe)))):
 ∃m1,(Instr.endLoop l).run P m.w=.ok pe m1.w/\Le m m1/\St B m0 m1 (L.eraseIdx k):=by
 obtain⟨fn,D,rfl⟩:=hR.ex
 obtain⟨h1,h2⟩:=hS.putObj (.loop {state:=.exhausted,pending:=pe,fn:=fn,tmps:=tmps,params:=ps,assign:=fC,body:=body,defers:=D}) k hk
 exact⟨_,run_endLoop (hS.JT k hk) hst,h1,h2.drop⟩
variable {gn:Func}{rr:Option Nat}
end
theorem xG{fn:Func}{tmps:Array Value}{Rr:Ending->World->Prop}:∀(Ds:List Nat) {w:World},Ds.Nodup->(∀D∈Ds,w.heap[D]?=some (.deferred (some [])))->
 (∀w',w'.os=w.os->w'.tape=w.tape->w'.output=w.output->w'.heap.size=w.heap.size->(∀c,c ∉ Ds->w'.heap[c]?=w.heap[c]?)->LeavesInM (FW none) 0 P fn tmps Rr [] .returning w')->LeavesInM (FW none) 0 P fn tmps Rr (Q1 Ds) .returning w
 |[],w,_,_,h=>h w rfl rfl rfl rfl (fun _ _=>rfl)
 |D::Ds,w,hn,hd,h=>by
  refine⟨by simp,.inl ⟨D,_,rfl,run_takeDeferred (hd D (by simp)),?_⟩⟩;have hn':=List.nodup_cons.1 hn;refine xG Ds hn'.2 (fun E hE=>(World.putObj_heap_other (by rintro rfl;exact hn'.1 hE)).trans (hd E (by simp[hE]))) fun w' h1 h2 h3 h4 h5=>h w' h1 h2 h3 (by rw[h4];simp) fun c hc=>?_
  simp at hc;exact(h5 c hc.2).trans (World.putObj_heap_other hc.1)
theorem Qw{fn:Func}{m':Mem}{L':List bR}{QQ:Value->Mem->List bR->Prop}{Ds:List Nat}(k:Nat)(hK:Kn n a K (Q1 Ds))(hS:St B m' m L)(hk:L[k]?=some (.defs Ds))(h:∀m1,Le m m1->St B m' m1 (L.eraseIdx k)->∀a',Kn n a' K->C5 P fn m' L' QQ .ret a' m1.w):
 C5 P fn m' L' QQ .ret a m.w:=by
 have h1:=hS.front k hk
 show LeavesInM _ _ _ _ a.tmps _ a.defers _ _
 rw[hK.defers]
 have hnd:Ds.Nodup:=by have:=h1.ow.nodup;rw[eJ]at this;exact(List.nodup_append.1 this).1
 refine xG Ds hnd (h1.ow.ok (.defs Ds) (by simp)) fun w' e1 e2 e3 e4 e5=>?_
 have key:∀{B':List Nat} {m1:Mem},St B' m1 m (.defs Ds::L.eraseIdx k)->St B' m1 ⟨w',m.ok⟩ (.defs []::L.eraseIdx k):=fun hh=>hh.turn e1 e2 e3 e4 e5 (fun _ _ _=>trivial) (fun b hb=>by simp[bR.defs]at hb) (by simp[bR.defs]) (fun D hD=>by simp at hD)
 exact h ⟨w',m.ok⟩ (key (St.refl h1.ow)).le (key h1).drop {a with defers:=[]} ⟨hK.size,rfl,hK.at_⟩
end
end
section
open IntKind(i64)
open Go.RowKit
section
variable {P:Program}{Q:Exit->Act->World->Prop}{a:Act}{w:World}{rr:Option Nat}
theorem kZ{b:Frame}{k:List Item}{cs:List Frame}{c:Code}:step P (lone (b.atR a (.code (.scope c)::k)) cs w)=.next (lone (b.atR a (.code c:: .inScope c::k)) cs w):=
 step_lone_go (by simp[stepG,stepG.exec,Frame.atR])
theorem EY{b:Frame}{k:List Item}{cs:List Frame}{c:Code}:step P (lone (b.atR a (.inScope c::k)) cs w)=.next (lone (b.atR a k) cs w):=
 step_lone_go (by simp[stepG,stepG.exec,Frame.atR])
theorem Xw{c:Code}(h:c.wpIn (FW rr) 0 P (Exit.noGoto Q) a w):(Code.scope c).wpIn (FW rr) 0 P Q a w:=by
 intro b k cs hro hb hr;have h0:(lone (b.atR a (.code (.scope c)::k)) cs w).fenced P (FW rr):=fenced_calm hb hr rfl;obtain⟨e,a₁,w₁,hq,harr⟩:=h b (.inScope c::k) cs hro hb hr
 cases e with
 |normal=>exact⟨.normal,a₁,w₁,hq,.head h0 kZ (StepsIn.trans harr (.one (fenced_calm hb hr rfl) EY))⟩
 |exit id=>exact⟨.exit id,a₁,w₁,hq,fun k' hk=>.head h0 kZ (harr.1 k' (by simp[exitTo,hk])),fun hr' hk=>by
  obtain⟨k₁,h1,h2⟩:=harr.2 hr' (by simp[exitTo,hk]);exact⟨k₁,by simpa[exitTo]using h1,.head h0 kZ h2⟩⟩
 |goto l=>exact hq.elim
 |ret=>exact⟨_,a₁,w₁,hq,.of_steps (.one h0 kZ) harr⟩
 |panic ch=>exact⟨_,a₁,w₁,hq,.of_steps (.one h0 kZ) harr⟩
 |outgrown=>exact⟨_,a₁,w₁,hq,.of_steps (.one h0 kZ) harr⟩
end
section
variable {P:Program}{Q:Exit->Act->World->Prop}{a:Act}{w:World}{rr:Option Nat}{ops ops2:Array Oper}{id n:Nat}{y:Code}{o:Oper}{rest:List Oper}{K:Kt}{ds:List Deferred}
theorem sr(h:wpListIn (FW rr) 0 P ops (Exit.then (y.wpIn (FW rr) 0 P Q) Q) ops.toList a w):((Code.region id ops false).seq y).wpIn (FW rr) 0 P Q a w:=KA (El h)
theorem nn{next:Act->World->Prop}(h:next a w):wpListIn (FW rr) 0 P ops (Exit.then next Q) [] a w:=wpListIn_nil (wG h)
theorem nx{Q2:Exit->Act->World->Prop}(h:wpListIn (FW rr) 0 P ops (Exit.then (y.wpIn (FW rr) 0 P Q) Q) ops.toList a w):wpListIn (FW rr) 0 P ops2 (Exit.then (((Code.region id ops false).seq y).wpIn (FW rr) 0 P Q) Q2) [] a w:=nn (sr h)
def abj(o:Oper)(K:Kt):Option Value:=match o.op with| .move x| .assign x=>gV K x|_=>none
theorem qm(d:Nat){v:Value}(hK:Kn n a K ds)(next:∀a',Kn n a' ((d,v)::K) ds->wpListIn (FW rr) 0 P ops Q rest a' w)(hc:Zr ops o K n d=true:=by kernel_rfl)(hm:abj o K=some v:=by rfl):wpListIn (FW rr) 0 P ops Q (o::rest) a w:=by
 refine acs d hK hc ?_;unfold abj at hm;unfold bI execOp;cases ho:o.op<;>simp only[ho]at hm<;>first|cases hm|(simp only[hK.ev hm];exact next)
end
section
variable {P:Program}{o:Oper}{a:Act}{K:Kt}{B:List Nat}{m0 m:Mem}{L:List bR}{b6:Value->World->Prop}{x y:Operand}{t tx e:TypeId}{α:Type}
theorem zV{ty:TypeId}{z:Value}{sz bytes:Nat}(w:World)(hT:dE P t e z sz bytes)(hx:P.underlying tx=some (.int .i64))(n:Nat)(hn:0<n)(hb:n*bytes<=140737488355328)(hb0:1<=bytes):
 (Builtin.append_ #[t,tx] ty #[.slice none 0 0,.int .i64 (n:Int)]).run P w=.ok (.slice (some ⟨w.heap.size,0,none⟩) n (grownCap w n 0 e))
  (w.drew.alloc (.cells (Builtin.zeroCells z.cells n++Builtin.zeroCells z.cells (grownCap w n 0 e-n)) e)):=by
 obtain⟨i,hi,hz,hs,hby⟩:=info_parts hT.info
 have hnb:n<=n*bytes:=Nat.le_mul_of_pos_right _ hb0
 have hw:i64.wrap (n:Int)=(n:Int):=G.jQ (by omega) (by omega)
 have h1:¬ ((n:Int)<0):=by omega
 have h2:¬ ((281474976710656:Int)<(n:Int)*(bytes:Int)):=by
  have:((n*bytes:Nat):Int)<=140737488355328:=by omega
  rw[Int.natCast_mul]at this;omega
 have h3:¬ (9223372036854775807<(n:Int)):=by omega
 have h4':¬ (n=0\/sz=0):=by have:=hT.pos;omega
 have hfit:Builtin.nextslicecap n 0*bytes<=281474976710656:=growslice_fits (need:=n) (old:=0) hn hb
 have h5:¬ (281474976710656<Builtin.nextslicecap n 0*bytes):=by omega
 have h6:¬ n=0:=by omega
 have h4:¬ n*sz=0:=Nat.mul_ne_zero h6 (by have:=hT.pos;omega)
 simp[h4,Builtin.append_,run_underlying hT.gH,run_underlying hx,sizeOf,typeInfo,zeroValue,hi,hz,hs,hby,asInt,asIntOf,hw,h1,h2,h3,h4',h5,h6,Question.forced,newRow,grownCap,Builtin.firstCells]
theorem QE{z:Value}{sz bytes n:Nat}{i:Int}(hT:dE P t e z sz bytes)(hx:P.underlying tx=some (.int .i64))(hu:0<i/\i*(bytes:Int)<=140737488355328)(hn:n=i.toNat)(hK:Ke a K)(hS:St B m0 m L)(ho:o.op=.call ⟨.builtin .append,#[x,y],#[t,tx]⟩)
 (hxx:gV K x=some (.slice none 0 0)) (hy:gV K y=some (.int .i64 i)) (hb:decide (1<=bytes)=true)
 (hp:∀m' b cap,Le m m'->cap<=maxLen->St B m0 m' (rowOf e sz (some b) cap ([]:List α)::L)->b6 (.slice (fP (some b)) n cap) m'.w):bI P o a m.w b6:=by
 obtain rfl:i=(n:Int):=by omega
 have hb1:1<=bytes:=aZ hb
 have hnb:n*bytes<=140737488355328:=by
  have:=hu.2;rw[<- Int.natCast_mul]at this;omega
 have hrun:=zV (ty:=o.type) m.w hT hx n (by omega) hnb hb1
 have hle:n<=n*bytes:=Nat.le_mul_of_pos_right _ hb1
 have hge:=grownCap_ge m.w n 0 e
 have hcm:=grownCap_le_maxLen m.w n 0 e (by unfold maxLen;omega)
 unfold bI execOp
 simp only[ho,resolve,invoke,builtin,Sem.run_bind,Sem.run_pure,Result.andThen_ok,aX,aF,bp,hK.ev hxx,hK.ev hy,hrun]
 have h1:=hS.drew
 have hsz:m.w.drew.heap.size=m.w.heap.size:=rfl
 have h2:=h1.new (o:=.cells (Builtin.zeroCells z.cells n++Builtin.zeroCells z.cells (grownCap m.w n 0 e-n)) e) rfl (rowOf e sz (some m.w.heap.size) (grownCap m.w n 0 e) ([]:List α)) (by simp[rowOf,bR.row]) (fun b hbb=>by
  cases hbb;refine⟨_,eu m.w.drew _,?_⟩;simp only[Array.size_append,size_zeroCells,hT.zs,<- aN];congr 1;omega)
 exact hp _ _ _ ((Le.up m (Below.refl _ _).drew).trans (St.new (St.refl (Ow.nil (m.up m.w.drew))) rfl (rowOf e sz (some m.w.heap.size) (grownCap m.w n 0 e) ([]:List α)) (by simp[rowOf,bR.row]) (fun b hbb=>by
  cases hbb;refine⟨_,eu m.w.drew _,?_⟩;simp only[Array.size_append,size_zeroCells,hT.zs,<- aN];congr 1;omega)).le) hcm h2
theorem dM.Se{R:Mem->α->List Value->Prop}{sz b cap:Nat}(m:Mem)(h:cap<=maxLen):dM R m sz (fP (some b)) cap ([]:List α):=
 ⟨[],⟨by simp,Nat.zero_le _,h,(fun h=>by cases h),fun j v hv=>by simp at hv⟩,rfl,fun i x cs hx=>by simp at hx⟩
theorem A6{z:Value}{sz bytes n cap:Nat}{ad:Option Addr}{k:IntKind}(hT:dE P t e z sz bytes)(hK:Ke a K)(ho:o.op=.slice t x none (some y) none)(hxx:gV K x=some (.slice ad n cap))(hy:gV K y=some (.int k 0))
 (hp:b6 (.slice ad 0 cap) m.w):bI P o a m.w b6:=by
 have:=kX (P:=P) (w:=m.w) hT ad n cap 0 0 none (some (.int k ((0:Nat):Int))) (by simp only[Instr.sliceBounds,Sem.run_bind,Sem.run_pure,Result.andThen_ok,dQ (P:=P) (j:=0) (Nat.zero_le cap)])
 unfold bI execOp
 simp only[ho,ak,Option.map_none,hK.ev hxx,hK.ev hy,Sem.run_bind]
 rw[show((0:Nat):Int)=0 from rfl]at this
 simp only[this,Result.andThen_ok,Sem.run_pure,gR,Nat.sub_zero]
 exact hp
end
end
end Go.Proofs.YtjfkdglgecgjfaaGreat
