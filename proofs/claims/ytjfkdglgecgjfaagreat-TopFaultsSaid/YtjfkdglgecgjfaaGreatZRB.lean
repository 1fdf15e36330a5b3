/- Part of the proof. -/
import Derived.Test.YtjfkdglgecgjfaaGreatZR5
import Derived.RangeFuncIn
import Derived.Defers
namespace Go.Proofs.YtjfkdglgecgjfaaGreat.R
open Go.RowKit
section
variable {P:Program}{w0 w:World}{ρ:lP}{h:HS}{K:Tr AV}{a:Act}{o:Oper}{r:AR}
theorem DC{t:TypeId}{x:Operand}(ho:o.op=.range t x)(H:WR w0 ρ h w)(hE:sI ρ K a o.op)(e:cC P h K o=some r):dB w0 ρ h w ((execOp a.eval o).run P w) r:=by
 simp only[cC,ho,aa]at e;obtain⟨m,e1,e⟩:=e;have hm:=hE x m (by simp[ho,Op.operands]) e1;unfold Mn at e;split at e
 . rename_i q kt et hu;simp only[ab]at e;obtain⟨mm,e2,rfl⟩:=e;obtain⟨L,hL,hx⟩:=lj hm;obtain⟨vs,k1,k2⟩:=pX H e2 hL;intro h₂ q' H2 hx' hn;have hne:q≠q':=fun e=>by rw[e,hn]at hL;cases hL
   refine⟨.pointer (some ⟨w.heap.size,0,none⟩),w.alloc (.mapIter (some L.b) mm.2 #[] mm.2),⟨w.heap.size,0,0⟩,?_,xb,H2.alloc hx' hn (.inl rfl) ⟨rfl,L,by rw[rY hne];exact hL,by rw[nA,if_pos rfl]⟩⟩;simp[execOp,ho,Instr.range,hx,run_underlying hu,dX k2]
 . rename_i s hu;cases e;have hx:=dR hm;intro h₂ q' H2 hx' hn;refine⟨.pointer (some ⟨w.heap.size,0,none⟩),w.alloc (.stringIter s 0),⟨w.heap.size,0,0⟩,?_,xb,H2.alloc hx' hn (.inl rfl) ⟨rfl,by rw[nA,if_pos rfl]⟩⟩;simp[execOp,ho,Instr.range,hx,run_underlying hu]
 . cases e
theorem Xe(seen:List Nat)(b:Nat):seen.toArray.contains b=seen.any fun c=>Nat.beq b c:=by
 rw[List.contains_toArray,Bool.eq_iff_iff];simp only[List.contains_iff_mem,bC];constructor
 . intro hm;exact⟨b,hm,Nat.beq_refl b⟩
 . rintro⟨c,hm,hc⟩;rw[ah hc];exact hm
theorem rh(f:Nat->Bool):∀{es:List (AV×AV×Nat)} {vs:List MapEntry},dU ρ es=some vs->dU ρ (es.filter fun e=>f e.2.2)=some (vs.filter fun e=>f e.born)
 |[],vs,e=>by simp only[dU,af]at e;rw[<- e];rfl
 |(k,v,b)::es,vs,e=>by
  obtain⟨k',v',vs',rfl,h1,h2,h3⟩:=ey e;simp only[List.filter_cons]
  cases hb:f b with
  |true=>simp only[if_true];exact nZ h1 h2 (rh f h3)
  |false=>simp only[aH,if_false];exact rh f h3
theorem zg(f:Nat->Bool):∀{es:List (AV×AV×Nat)} {vs:List MapEntry},dU ρ es=some vs->(es.all fun e=>f e.2.2)=vs.all fun e=>f e.born
 |[],vs,e=>by simp only[dU,af]at e;rw[<- e];rfl
 |(k,v,b)::es,vs,e=>by
  obtain⟨k',v',vs',rfl,_,_,h3⟩:=ey e;simp only[List.all_cons,zg f h3]
theorem jO{b:Nat}{x:Obj}(hb:w.heap[b]?=some x)(hc:∀c T f,x≠ .cells c T f):(getObj b).run P w=.ok x w:=by
 cases x with
 |cells c T f=>exact absurd rfl (hc c T f)
 |_=>simp[getObj,Sem.run,hb]
theorem nN{b:Nat}{x ob:Obj}(hb:w.heap[b]?=some x)(hc:∀c T f,x≠ .cells c T f):(setObj b ob).run P w=.ok () {w with heap:=w.heap.setIfInBounds b ob}:=by
 cases x with
 |cells c T f=>exact absurd rfl (hc c T f)
 |_=>simp[setObj,Sem.run,hb]
theorem AX{α:Type}(f:α->Bool):∀(l:List α),l.all f=true->l.filter f=l/\l.filter (fun x=>!f x)=[]
 |[],_=>⟨rfl,rfl⟩
 |x::l,h=>by
  simp only[List.all_cons,al]at h;obtain⟨h1,h2⟩:=AX f l h.2;simp[h.1,h1,h2]
theorem WO{x:Operand}{s:Bool}(ho:o.op=.next x s)(H:WR w0 ρ h w)(hE:sI ρ K a o.op)(e:cC P h K o=some r):dB w0 ρ h w ((execOp a.eval o).run P w) r:=by
 simp only[cC,ho,aa]at e;obtain⟨it,e1,e⟩:=e;have hit:=hE x it (by simp[ho,Op.operands]) e1;have up:∀{v':Value} {w':World},(Instr.next (a.eval x) s o.type).run P w=.ok v' w'->(execOp a.eval o).run P w=.ok (.value v') w':=fun hr=>by
  simp only[execOp,ho,Sem.run_bind,hr,Result.andThen_ok,Sem.run_pure]
 unfold Tc at e;split at e
 . rename_i q;simp only[aa]at e;obtain⟨y,e2,e⟩:=e;obtain⟨L,hL,hx⟩:=jx hit;have hob:=H.obj _ _ _ e2 hL;split at e
   . rename_i st pos;obtain⟨h0,hob⟩:=hob;have hget:(getObj L.b).run P w=.ok (.stringIter st pos) w:=jO hob (fun _ _ _ h=>by cases h);have ha:addr L 0=⟨L.b,0,none⟩:=by simp[addr,h0]
     split at e
     . rename_i hlt;have hlt':pos<st.size:=aj hlt;cases e;have hset:∀ob,(setObj L.b ob).run P w=.ok () {w with heap:=w.heap.setIfInBounds L.b ob}:=fun ob=>nN hob (fun _ _ _ h=>by cases h)
       refine⟨ρ,.tuple #[.bool true,.int .i64 pos,.int .i32 (Utf8.decode st pos).1],_,jl.refl,.inl (up ?_),rfl,H.set e2 hL (fL w L.b (.stringIter st (pos+(Utf8.decode st pos).2))) (fun b hb=>fY w L.b _ b hb) ⟨h0,mZ w _ hob⟩⟩;rw[hx,ha];simp only[Instr.next,Sem.run_bind,hget,Result.andThen_ok,if_pos hlt',hset,Sem.run_pure,goInt]
     . rename_i hlt;have hlt':¬ pos<st.size:=fun h1=>by rw[Nat.blt,Nat.ble_eq_true_of_le h1]at hlt;cases hlt
       cases e;refine⟨ρ,.tuple #[.bool false],w,jl.refl,.inl (up ?_),rfl,H⟩;rw[hx,ha];simp only[Instr.next,Sem.run_bind,hget,Result.andThen_ok,if_neg hlt',Sem.run_pure]
   . rename_i m since seen last;simp only[aa]at e;obtain⟨mm,e3,e⟩:=e;obtain⟨h0,Lm,hLm,hob⟩:=hob;have ha:addr L 0=⟨L.b,0,none⟩:=by simp[addr,h0]
     obtain⟨vs,k1,k2⟩:=pX H e3 hLm;have hget:(getObj L.b).run P w=.ok (.mapIter (some Lm.b) since seen.toArray last) w:=jO hob (fun _ _ _ h=>by cases h);split at e
     . cases e
     rename_i hc1;split at e
     . cases e
     rename_i hc2;have hleft:dU ρ (xH mm.1 seen)=some (vs.filter fun e=>!seen.toArray.contains e.born):=by
      have:=rh (ρ:=ρ) (fun b=>!seen.any fun c=>Nat.beq b c) k1;simp only[Xe];exact this
     have hble:∀b:Nat,Nat.ble (b+1) since=decide (b<since):=fun b=>by rw[Bool.eq_iff_iff];simp;omega
     have hall:(vs.filter fun e=>!seen.toArray.contains e.born).all (fun e=>decide (e.born<since))=true:=by
      rw[<- hc2,zg (fun b=>Nat.ble (b+1) since) hleft];congr 1;funext e;rw[hble]
     obtain⟨hold,hnew⟩:=AX _ _ hall;have hc1':(!seen.toArray.isEmpty&&!vs.toArray.isEmpty&&vs.toArray.all fun e=>decide (e.born≥last))=false:=by
      rw[<- hc1,toArray_isEmpty k1];congr 1
      . simp
      . rw[zg (fun b=>Nat.ble last b) k1];simp only[List.all_toArray];congr 1;funext e;rw[Bool.eq_iff_iff];simp
     generalize hlv:(vs.filter fun e=>!seen.toArray.contains e.born)=lv at*
     have hlen:=uv hleft;have hnew':lv.filter (fun e=>decide (e.born≥since))=[]:=by
      rw[<- hnew];congr 1;funext e;rw[Bool.eq_iff_iff];simp
     have hrun0:(Instr.next (a.eval x) false o.type).run P w=((do
      match((if lv.toArray.isEmpty then #[none]else #[])++lv.toArray.map some:Array (Option MapEntry))[<- choose (.mapNext ((if lv.toArray.isEmpty then #[none]else #[])++lv.toArray.map some:Array (Option MapEntry)).size)]? with
      |some (some e)=>
       setObj L.b (.mapIter (some Lm.b) since (seen.toArray.push e.born) mm.2)
       pure (.tuple #[.bool true,e.key,e.val])
      |some none=>pure (.tuple #[.bool false])
      |none=>stuck "Next: no such candidate"):Sem Value).run P w:=by
      rw[hx,ha]
      simp only[Instr.next,Sem.run_bind,hget,Result.andThen_ok,dX k2,hc1',aH,if_false,List.filter_toArray,hlv,hold,hnew',List.append_toArray,aW]
      rfl
     split at e
     . rename_i hemp;have hnil:lv=[]:=by
        have:(xH mm.1 seen).length=0:=by simpa using hemp
        rw[this]at hlen;exact bq hlen
       cases e;refine⟨ρ,.tuple #[.bool false],w,jl.refl,.inl (up ?_),rfl,H⟩;rw[hrun0,hnil];simp[choose,Sem.run,Question.forced]
     . rename_i hemp;have hpos:0<lv.length:=by
        rw[hlen]
        cases hq:xH mm.1 seen with
        |nil=>rw[hq]at hemp;cases hemp
        |cons q l=>simp
       have hne:lv.toArray.isEmpty=false:=by
        cases lv with
        |nil=>simp at hpos
        |cons q l=>rfl
       cases e;have hch:∃i w1,i<lv.length/\(choose (.mapNext lv.length)).run P w=.ok i w1/\(w1=w\/w1=w.drew):=by
        by_cases h1:lv.length<=1
        . exact⟨0,w,hpos,by simp[choose,Sem.run,Question.forced,h1],.inl rfl⟩
        . exact⟨w.tape w.drawn (.mapNext lv.length) % lv.length,w.drew,Nat.mod_lt _ hpos,by simp[choose,Sem.run,Question.forced,h1,Question.cut],.inr rfl⟩
       obtain⟨i,w1,hi,hc,hw1⟩:=hch;have H1:WR w0 ρ h w1:=by rcases hw1 with rfl|rfl;exact H;exact H.drew
       have hob1:w1.heap[L.b]?=some (.mapIter (some Lm.b) since seen.toArray last):=by rcases hw1 with rfl|rfl<;>exact hob
       have hi':i<(xH mm.1 seen).length:=by omega
       obtain⟨k',v',g1,g2,g3⟩:=qu hleft (List.getElem?_eq_getElem hi');refine⟨_,List.mem_map.2 ⟨(xH mm.1 seen)[i],aR hi',rfl⟩,ρ,.tuple #[.bool true,k',v'],{w1 with heap:=w1.heap.setIfInBounds L.b (.mapIter (some Lm.b) since (seen++[((xH mm.1 seen)[i]).2.2]).toArray mm.2)},jl.refl,up ?_,by simp only[conv,bX,g2,g3,ae,ak],H1.set e2 hL (fL w1 L.b _) (fun b hb=>fY w1 L.b _ b hb) ⟨h0,Lm,hLm,mZ w1 _ hob1⟩⟩;rw[hrun0,hne];have hset:∀ob,(setObj L.b ob).run P w1=.ok () {w1 with heap:=w1.heap.setIfInBounds L.b ob}:=fun ob=>nN hob1 (fun _ _ _ h=>by cases h)
       simp only[aH,if_false,Array.empty_append,Array.size_map,List.size_toArray,Sem.run_bind,hc,Result.andThen_ok,Array.getElem?_map,List.getElem?_toArray,g1,ak,hset,Sem.run_pure,List.push_toArray]
   . cases e
 . cases e
theorem Dz{x:Operand}(ho:o.op=.entry x)(H:WR w0 ρ h w)(hE:sI ρ K a o.op)(e:cC P h K o=some r):dB w0 ρ h w ((execOp a.eval o).run P w) r:=by
 simp only[cC,ho,aa]at e;obtain⟨it,e1,e⟩:=e;have hit:=hE x it (by simp[ho,Op.operands]) e1;unfold Lo at e;split at e
 . rename_i q;simp only[aa]at e;obtain⟨y,e2,e⟩:=e;obtain⟨L,hL,hx⟩:=jx hit;have hob:=H.obj _ _ _ e2 hL;split at e
   . rename_i m since seen step;simp only[aa]at e;obtain⟨mm,e3,e⟩:=e;obtain⟨h0,Lm,hLm,hob⟩:=hob;have ha:addr L 0=⟨L.b,0,none⟩:=by simp[addr,h0]
     obtain⟨vs,k1,k2⟩:=pX H e3 hLm;have hget:(getObj L.b).run P w=.ok (.mapIter (some Lm.b) since seen.toArray step) w:=jO hob (fun _ _ _ h=>by cases h);split at e
     . rename_i st hst hlast;simp only[ab]at e;obtain⟨en,e4,rfl⟩:=e;have hst:mm.2=step:=ah hst;have hfind:∀{es:List (AV×AV×Nat)} {vs:List MapEntry},dU ρ es=some vs->(es.find? fun e=>Nat.beq e.2.2 st)=some en->∃k' v',(vs.find? fun e=>e.born == st)=some ⟨k',v',en.2.2⟩/\conv ρ en.1=some k'/\conv ρ en.2.1=some v':=by
        intro es
        induction es with
        |nil=>intro vs _ e;simp at e
        |cons p es ih=>
         intro vs hc e
         obtain⟨k,v,b⟩:=p
         obtain⟨k',v',vs',rfl,h1,h2,h3⟩:=ey hc
         rw[List.find?_cons]at e ⊢
         have hb:(b == st)=Nat.beq b st:=by rw[Bool.eq_iff_iff];simp
         simp only at e ⊢
         rw[hb]
         cases hq:Nat.beq b st with
         |true=>rw[hq]at e;cases e;exact⟨k',v',rfl,h1,h2⟩
         |false=>rw[hq]at e;exact ih h3 e
       obtain⟨k',v',g1,g2,g3⟩:=hfind k1 e4;refine⟨.tuple #[k',v'],w,?_,by simp only[conv,bX,g2,g3,ae,ak],H⟩;have hb:seen.toArray.back?=some st:=by simpa using hlast
       have hf:vs.toArray.find? (fun e=>e.born == st)=some ⟨k',v',en.2.2⟩:=by simpa using g1
       have hne:(mm.2 !=step)=false:=by simp[hst]
       simp only[execOp,ho,Instr.entry,Sem.run_bind,hx,ha,hget,Result.andThen_ok,hb,dX k2,hne,aH,if_false,hf,Sem.run_pure]
     . cases e
   . cases e
 . cases e
theorem zJ{ats:List TypeId}{t:TypeId}{args':List Value}{m k:AV}{ty:TypeId}(H:WR w0 ρ h w)(hc:bX ρ [m,k]=some args')(e:GH P h t m k=some r):dB w0 ρ h w ((do pure (Next.value (<- Builtin.delete_ (t::ats).toArray ty args'.toArray)):Sem Next).run P w) r:=by
 obtain⟨m',k',rfl,hm,hk⟩:=RZ hc;unfold GH at e;split at e
 . rename_i q;simp only[aa,ab]at e;obtain⟨mm,e3,kv,e4,tt,e5,f,e6,e⟩:=e;obtain⟨L,hL,rfl⟩:=lj hm;obtain⟨vs,k1,k2⟩:=pX H e3 hL;obtain⟨k3,k4,k5⟩:=xv (w:=w) k1 e6;have hy:k'=kv:=by have:=n6 (ρ:=ρ) e4;rw[hk]at this;simpa using this
   subst hy;have hu:=ma e5;have hg:=nL e3;have up:∀{v':Value} {w':World},(Builtin.delete_ (t::ats).toArray ty [Value.map (some L.b),k'].toArray).run P w=.ok v' w'->(do pure (Next.value (<- Builtin.delete_ (t::ats).toArray ty [Value.map (some L.b),k'].toArray)):Sem Next).run P w=.ok (.value v') w':=fun hr=>by
    simp only[Sem.run_bind,hr,Result.andThen_ok,Sem.run_pure]
   split at e
   . rename_i i;obtain⟨en,h2,h3⟩:=k5 i rfl;cases e;refine⟨ρ,undef,_,jl.refl,.inl (up ?_),rfl,H.set hg hL (fL w L.b (.map (vs.eraseIdx i).toArray mm.2)) (fun b hb=>fY w L.b _ b hb) ⟨_,AP i k1,mZ w _ k2⟩⟩;have he:vs.toArray.eraseIdxIfInBounds i=(vs.eraseIdx i).toArray:=by
      apply Array.ext';simp
     simp[Builtin.delete_,run_underlying hu,dX k2,toArray_isEmpty k1,k3,h3,jD k2,undef]
   . cases e;refine⟨ρ,undef,{w with heap:=w.heap.setIfInBounds L.b (.map vs.toArray mm.2)},jl.refl,.inl (up ?_),rfl,H.same (fL w L.b _) fun b hb=>?_⟩
     . simp[Builtin.delete_,run_underlying hu,dX k2,toArray_isEmpty k1,k3,k4 rfl,jD k2,undef]
     . by_cases hbl:b=L.b
       . subst hbl;rw[mZ w _ k2,k2]
       . exact fY w L.b _ b hbl
 . cases e
theorem Dy{ats:List TypeId}{t:TypeId}{args':List Value}{x:AV}{ty:TypeId}(H:WR w0 ρ h w)(hc:bX ρ [x]=some args')(e:Ld P h t x=some r):dB w0 ρ h w ((do pure (Next.value (<- Builtin.clear_ (t::ats).toArray ty args'.toArray)):Sem Next).run P w) r:=by
 obtain⟨x',rfl,hx⟩:=Nz hc;unfold Ld at e;split at e
 . rename_i q;simp only[aa,ab]at e;obtain⟨mm,e3,tt,e5,rfl⟩:=e;obtain⟨L,hL,rfl⟩:=lj hx;obtain⟨vs,k1,k2⟩:=pX H e3 hL;have hu:=ma e5;have hg:=nL e3;refine⟨ρ,undef,_,jl.refl,.inl ?_,rfl,H.set hg hL (fL w L.b (.map #[] mm.2)) (fun b hb=>fY w L.b _ b hb) ⟨[],rfl,mZ w _ k2⟩⟩;simp[Builtin.clear_,run_underlying hu,dX k2,jD k2,undef]
 . rename_i q f n c z;simp only[aa]at e;obtain⟨ei,e1,zc,e2,cs,e3,e⟩:=e;obtain⟨hu,hi⟩:=rl e1;obtain⟨zv,hz,rfl⟩:=wM e2 hi;obtain⟨L,hL,rfl⟩:=ij hx;split at e
   . rename_i hn;have hn:1<=n:=aj hn;simp only[ab]at e;obtain⟨l,e4,rfl⟩:=e;have hg:=gg e3;obtain⟨w',s1,s2,s3,s4⟩:=BM (P:=P) (H.obj _ _ _ hg hL) e4 (vd zv.cells (n*zv.cells.size));refine⟨ρ,undef,w',jl.refl,.inl ?_,rfl,H.set hg hL s2 s3 s4⟩;obtain⟨n',rfl⟩:∃n',n=n'+1:=⟨n-1,by omega⟩;have hzl:(Builtin.zeroCells zv.cells (n'+1)).toList=(List.range ((n'+1)*zv.cells.size)).map fun i=>zv.cells[i % zv.cells.size]!:=by rw[wO]
     have hzr:(zeroValue ei.1).run P w=.ok zv w:=mH (by rw[hi,ak,hz]);simp[Builtin.clear_,run_underlying hu,hzr,hzl,s1,undef]
   . cases e
 . cases e
theorem Mg{b:Builtin}{ats:List TypeId}{args:List AV}{args':List Value}{ty:TypeId}{cs:Array Bool}(H:WR w0 ρ h w)(hc:bX ρ args=some args')(e:wU P h b ats args=some r):dB w0 ρ h w ((builtin b ats.toArray ty cs args'.toArray).run P w) r:=by
 unfold wU at e;split at e
 . exact zI H hc e
 . exact Hk H hc e
 . split at e
   . rename_i t ats q f n c z;obtain⟨x',rfl,hx⟩:=Nz hc;obtain⟨L,_,rfl⟩:=ij hx;split at e
     . rename_i hu;cases e;exact⟨.int .i64 n,w,by simp[builtin,Builtin.len_,run_underlying hu,goInt],rfl,H⟩
     . cases e
   . rename_i t ats q;obtain⟨x',rfl,hx⟩:=Nz hc;obtain⟨L,hL,rfl⟩:=lj hx;split at e
     . rename_i hu;simp only[ab]at e;obtain⟨mm,e3,rfl⟩:=e;obtain⟨vs,k1,k2⟩:=pX H e3 hL;exact⟨.int .i64 vs.length,w,by simp[builtin,Builtin.len_,run_underlying hu,dX k2,goInt],by rw[uv k1];rfl,H⟩
     . cases e
   . cases e
 . split at e
   . rename_i t ats q f n c z;obtain⟨x',rfl,hx⟩:=Nz hc;obtain⟨L,_,rfl⟩:=ij hx;split at e
     . rename_i hu;cases e;exact⟨.int .i64 c,w,by simp[builtin,Builtin.cap_,run_underlying hu,goInt,dZ],rfl,H⟩
     . cases e
   . cases e
 . split at e
   . exact Dy H hc e
   . cases e
 . split at e
   . exact zJ H hc e
   . cases e
 . cases e
theorem rn{f:FuncId}(e:pc P f=true):Enters P f:=by
 unfold pc at e;split at e
 . rename_i fn hf;simp only[al,Bool.not_eq_true']at e;exact enters_of hf e.1 (by cases hb:fn.body with|none=>rw[hb]at e;simp at e|some c=>rfl)
 . cases e
theorem Kh{n:Nat}:∀{ps:List Tmp} {vs:List AV} {us:List Value} {K K':Tr AV} {tmps:Array Value},A8 K n ps vs=some K'->bX ρ vs=some us->sA ρ n K tmps->ps.length=us.length/\sA ρ n K' ((ps.zip us).foldl (fun tmps (x:Tmp×Value)=>tmps.setIfInBounds x.1 x.2) tmps)
 |[],[],us,K,K',tmps,e,hc,ht=>by
  simp only[bX,af]at hc;subst hc;simp only[A8,af]at e;subst e;exact⟨rfl,ht⟩
 |[],_::_,_,_,_,_,e,_,_=>by simp[A8]at e
 |_::_,[],_,_,_,_,e,_,_=>by simp[A8]at e
 |t::ps,v::vs,us,K,K',tmps,e,hc,ht=>by
  obtain⟨u,us',rfl,h1,h2⟩:=dy hc;simp only[A8]at e;split at e
  . rename_i hb;have hlt:=aj hb;have ht':sA ρ n (K.put t (some v)) (tmps.setIfInBounds t u):=by
     refine⟨by simp[ht.size],fun s y hy=>?_⟩;rw[iu]at hy;split at hy
     . rename_i hs;subst hs;cases hy;exact⟨u,h1,by rw[Array.getElem?_setIfInBounds_self_of_lt];rw[ht.size];exact hlt⟩
     . rename_i hs;obtain⟨u',g1,g2⟩:=ht.at_ s y hy;exact⟨u',g1,by rw[Array.getElem?_setIfInBounds_ne (fun e=>hs e.symm)];exact g2⟩
    obtain⟨k1,k2⟩:=Kh e h2 ht';exact⟨by simp[k1],k2⟩
  . cases e
theorem Mt{t:TypeId}{name:String}{g:FuncId}(e:S2 P t name=some g)(u:Value)(n:Nat):(method (n+1) t u name).run P w=.ok (g,u) w:=by
 simp only[S2,aa]at e;obtain⟨i,e1,m,e2,e3⟩:=e;split at e3
 . cases e3
 . rename_i f d hnp hp hf hu;cases e3;have hpe:m.path= #[]:=by apply Array.ext';exact hp
   have hr:∀s:Option String,(receiverAt t (.val u) false s).run P w=.ok u w:=by
    intro s;simp only[receiverAt,Sem.run_bind,run_underlying hu,Result.andThen_ok];cases d<;>first|exact absurd rfl (hnp _)|simp[Place.get]
   simp only[method,Sem.run_bind,typeInfo,run_program,e1,e2,Result.andThen_ok,Sem.run_pure,hp,follow,hf,hr]
 . cases e3
theorem Hj{c:Call}(ho:o.op=.call c)(H:WR w0 ρ h w)(hE:sI ρ K a o.op)(e:cC P h K o=some r):dB w0 ρ h w ((execOp a.eval o).run P w) r:=by
 simp only[cC,ho,IY,aa]at e;obtain⟨args,e1,e⟩:=e;have hargs:=CO (a:=a) (ρ:=ρ) e1 fun x hx v=>hE x v (by
  rw[ho];simp only[Op.operands,Call.operands,Array.mem_append];exact .inr (by simpa using hx))
 have harr:c.args.map a.eval=(c.args.toList.map a.eval).toArray:=by apply Array.ext';simp
 split at e
 . rename_i f hcal;simp only[aa]at e;obtain⟨v,e2,e⟩:=e;have hf:=hE f v (by rw[ho];simp[Op.operands,Call.operands,hcal]) e2;split at e
   . rename_i g first caps;split at e
     . rename_i hen;cases e;simp only[conv,aa,ab]at hf;obtain⟨aS,h1,cs,h2,h3⟩:=hf;refine⟨aS++c.args.toList.map a.eval++cs,?_,dc (dc h1 hargs) h2⟩;have:=rn hen (aS.toArray++c.args.map a.eval++cs.toArray) w;simp only[execOp,ho,Sem.run_bind,resolve,hcal,Deferred.ofValue,<- h3,Sem.run_pure,Result.andThen_ok,invoke,this];rw[harr];simp
     . cases e
   . rename_i q;cases e;intro st pe fn n K1 ps fC body d K' hq hset;obtain⟨l,h3⟩:∃l,ρ q=some l/\a.eval f=.func (.yield l.b) #[] #[]:=by
      simp only[conv,ab]at hf;obtain⟨l,h1,h2⟩:=hf;exact⟨l,h1,h2.symm⟩
     obtain⟨hl,hfv⟩:=h3;obtain⟨tmps,ld,t1,t2,t3⟩:=H.obj _ _ _ hq hl;obtain⟨s1,s2⟩:=Kh hset hargs t1;refine⟨l,_,hl,?_,s2⟩;have hget:(getObj l.b).run P w=.ok _ w:=jO t3 (fun _ _ _ h=>by cases h);have hsz:¬ (c.args.map a.eval).size≠ps.size:=by
      have:=s1;simp only[aQ,Array.length_toList]at this;simp only[Array.size_map];intro h0;exact h0 this.symm
     simp only[execOp,ho,Sem.run_bind,resolve,hcal,Deferred.ofValue,hfv,Sem.run_pure,Result.andThen_ok,invoke,Instr.yield,Instr.getLoop,hget,Array.empty_append];rw[if_neg hsz];simp only[Sem.run_pure];congr 2;rw[<- Array.foldl_toList,Array.toList_zip,harr]
   . cases e
 . rename_i b hcal;split at e
   . rename_i hb;cases e;have:b=.recover:=by cases b<;>first|rfl|cases hb
     subst this;show(execOp a.eval o).run P w=.ok .recover w;simp only[execOp,ho,Sem.run_bind,resolve,hcal,Sem.run_pure,Result.andThen_ok,invoke,builtin]
   . have:=Mg (ty:=o.type) (cs:=c.args.map fun| .const _=>true|_=>false) H hargs e;have hrun:(execOp a.eval o).run P w=(builtin b c.argTypes.toList.toArray o.type (c.args.map fun| .const _=>true|_=>false) (c.args.toList.map a.eval).toArray).run P w:=by
      simp only[execOp,ho,Sem.run_bind,resolve,hcal,Sem.run_pure,Result.andThen_ok,invoke,harr,Array.toArray_toList];rfl
     rw[hrun];exact this
 . rename_i x name hcal;simp only[aa]at e;obtain⟨v,e2,e⟩:=e;have hf:=hE x v (by rw[ho];simp[Op.operands,Call.operands,hcal]) e2;split at e
   . rename_i t y;simp only[aa]at e;obtain⟨g,e3,e⟩:=e;split at e
     . rename_i hen;cases e;simp only[conv,ab]at hf;obtain⟨u,h1,h2⟩:=hf;refine⟨u::c.args.toList.map a.eval,?_,by simp only[bX,h1,hargs,ae,ak]⟩;have:=rn hen (#[u]++c.args.map a.eval) w;have hm:=Mt (w:=w) e3 u (P.types.size+(Made.depth-1));have hd:P.types.size+(Made.depth-1)+1=P.types.size+Made.depth:=rfl;rw[hd]at hm;have hx:(#[Value.iface t u]++c.args.map a.eval).extract 1 (#[Value.iface t u]++c.args.map a.eval).size=c.args.map a.eval:=by
        apply Array.ext';simp[bA]
       have h0:(#[Value.iface t u]++c.args.map a.eval)[0]?=some (.iface t u):=by rw[Array.getElem?_append_left (Nat.zero_lt_one:0<(#[Value.iface t u]).size)];rfl
       simp only[execOp,ho,Sem.run_bind,resolve,hcal,<- h2,Sem.run_pure,Result.andThen_ok,invoke,h0,hx,callMethod,run_program,hm,this];rw[harr];simp
     . cases e
   . cases e
theorem Tn{c:Call}(ho:o.op=.defer c)(hE:sI ρ K a o.op)(e:cC P h K o=some r):dB w0 ρ h w ((execOp a.eval o).run P w) r:=by
 simp only[cC,ho,Li,aa]at e;obtain⟨args,e1,e⟩:=e;have hargs:=CO (a:=a) (ρ:=ρ) e1 fun x hx v=>hE x v (by
  rw[ho];simp only[Op.operands,Call.operands,Array.mem_append];exact .inr (by simpa using hx))
 have harr:c.args.map a.eval=(c.args.toList.map a.eval).toArray:=by apply Array.ext';simp
 split at e
 . rename_i f hcal;simp only[aa]at e;obtain⟨v,e2,e⟩:=e;have hf:=hE f v (by rw[ho];simp[Op.operands,Call.operands,hcal]) e2;split at e
   . rename_i g first caps;cases e;simp only[conv,aa,ab]at hf;obtain⟨aS,h1,cs,h2,h3⟩:=hf;refine⟨{target:=.fn g cs.toArray,args:=aS.toArray++c.args.map a.eval},?_,?_⟩
     . simp only[execOp,ho,Sem.run_bind,resolve,hcal,Deferred.ofValue,<- h3,Sem.run_pure,Result.andThen_ok]
     . simp only[te,h2,dc h1 hargs,ae,ak,harr];simp
   . cases e
 . cases e
theorem Ts{x:Operand}(ho:o.op=.panic x)(hE:sI ρ K a o.op)(e:cC P h K o=some r):dB w0 ρ h w ((execOp a.eval o).run P w) r:=by
 simp only[cC,ho,aa]at e;obtain⟨v,e1,e⟩:=e;have hv:=hE x v (by simp[ho,Op.operands]) e1;split at e
 . cases e;have hv':=hv;obtain⟨u,_,hx⟩:=xa hv;exact⟨a.eval x,by simp[execOp,ho,hx,Instr.panic,goPanic,Sem.run,Result.andThen],hv'⟩
 . cases e
theorem Ml(H:WR w0 ρ h w)(hE:sI ρ K a o.op)(e:yH P h K o=some r):dB w0 ρ h w ((execOp a.eval o).run P w) r:=by
 unfold yH at e;rw[Tx]at e;split at e
 . rename_i r' he;cases e
   cases ho:o.op with
   |move x=>exact xZ (.inl ho) H hE he
   |assign x=>exact xZ (.inr ho) H hE he
   |pick c x y=>exact Hn ho H hE he
   |alloc t=>exact Dw ho he
   |box t x=>exact Mf ho hE he
   |build t ps=>exact Dx ho H hE he
   |buildSlice t n ps=>exact p7 ho hE he
   |insert t x y z=>exact FM (.inr ho) H hE he
   |load t x=>exact Hl ho H hE he
   |store t x y=>exact DD ho H hE he
   |nilCheck x=>exact tD ho H hE he
   |binOp op t x y t'=>exact Tl ho H hE he
   |convert s d x=>exact Mh ho H hE he
   |makeInterface t x=>exact zM ho H hE he
   |makeFunc f xs ys=>exact tB ho H hE he
   |makeMap t x=>exact wh ho hE he
   |makeSlice t x y=>exact rS ho hE he
   |slice t x l u m=>exact ok_slice ho H hE he
   |fieldAddr t x i=>exact rQ ho H hE he
   |field t x i=>exact DA ho H hE he
   |indexAddr t x y=>exact rR ho H hE he
   |index t x y=>exact DB ho H hE he
   |lookup t x y c=>exact zL ho H hE he
   |mapUpdate t x y z=>exact FM (.inl ho) H hE he
   |mapEntry t x y=>exact tC ho H hE he
   |entryStore t x y z=>exact Tp ho H hE he
   |range t x=>exact DC ho H hE he
   |next x s=>exact WO ho H hE he
   |entry x=>exact Dz ho H hE he
   |typeAssert x u t c=>exact EU ho H hE he
   |extract x i=>exact wg ho H hE he
   |call c=>exact Hj ho H hE he
   |defer c=>exact Tn ho hE he
   |panic x=>exact Ts ho hE he
   |_=>simp only[cC,ho]at he;cases he
 . exact WS H hE e
end
end Go.Proofs.YtjfkdglgecgjfaaGreat.R
namespace Go.Proofs.YtjfkdglgecgjfaaGreat.R
open Go.RowKit
theorem P0:∀{a b:Value},Sh a b=true->a=b:=by
 intro a b h;unfold Sh at h;split at h
 . simpa using h
 . simp only[al,aJ]at h;rw[h.1,h.2]
 . rw[aZ h]
 . rw[aZ h]
 . simp only[al]at h;rw[ah h.1,ah h.2]
 all_goals first|rfl|cases h
theorem PY:∀{a b:Option Nat},eqN a b=true->a=b
 |none,none,_=>rfl
 |some a,some b,h=>by rw[ah h]
 |none,some _,h=>by cases h
 |some _,none,h=>by cases h
mutual
theorem rp:∀{a b:AV},ln a b=true->a=b
 |.p a,.p b,h=>by simp only[ln]at h;rw[P0 h]
 |.ptr o f,.ptr o' f',h=>by simp only[ln,al]at h;rw[ah h.1,ah h.2]
 |.sl o f n c z,.sl o' f' n' c' z',h=>by
  simp only[ln,al]at h;rw[ah h.1.1.1.1,ah h.1.1.1.2,ah h.1.1.2,PY h.1.2,ah h.2]
 |.mp o,.mp o',h=>by simp only[ln]at h;rw[ah h]
 |.fn f a c,.fn f' a' c',h=>by
  simp only[ln,al,aJ]at h;rw[h.1.1,lW h.1.2,lW h.2]
 |.yl o,.yl o',h=>by simp only[ln]at h;rw[ah h]
 |.rE t v,.rE t' v',h=>by simp only[ln,al]at h;rw[ah h.1,rp h.2]
 |.agg l,.agg l',h=>by simp only[ln]at h;rw[lW h]
 |.dD l,.dD l',h=>by simp only[ln]at h;rw[lW h]
 |.p _,.ptr ..,h| .p _,.sl ..,h| .p _,.mp ..,h| .p _,.fn ..,h| .p _,.yl ..,h| .p _,.rE ..,h| .p _,.agg ..,h| .p _,.dD ..,h=>by simp[ln]at h
 |.ptr ..,.p _,h| .ptr ..,.sl ..,h| .ptr ..,.mp ..,h| .ptr ..,.fn ..,h| .ptr ..,.yl ..,h| .ptr ..,.rE ..,h| .ptr ..,.agg ..,h| .ptr ..,.dD ..,h=>by simp[ln]at h
 |.sl ..,.p _,h| .sl ..,.ptr ..,h| .sl ..,.mp ..,h| .sl ..,.fn ..,h| .sl ..,.yl ..,h| .sl ..,.rE ..,h| .sl ..,.agg ..,h| .sl ..,.dD ..,h=>by simp[ln]at h
 |.mp ..,.p _,h| .mp ..,.ptr ..,h| .mp ..,.sl ..,h| .mp ..,.fn ..,h| .mp ..,.yl ..,h| .mp ..,.rE ..,h| .mp ..,.agg ..,h| .mp ..,.dD ..,h=>by simp[ln]at h
 |.fn ..,.p _,h| .fn ..,.ptr ..,h| .fn ..,.sl ..,h| .fn ..,.mp ..,h| .fn ..,.yl ..,h| .fn ..,.rE ..,h| .fn ..,.agg ..,h| .fn ..,.dD ..,h=>by simp[ln]at h
 |.yl ..,.p _,h| .yl ..,.ptr ..,h| .yl ..,.sl ..,h| .yl ..,.mp ..,h| .yl ..,.fn ..,h| .yl ..,.rE ..,h| .yl ..,.agg ..,h| .yl ..,.dD ..,h=>by simp[ln]at h
 |.rE ..,.p _,h| .rE ..,.ptr ..,h| .rE ..,.sl ..,h| .rE ..,.mp ..,h| .rE ..,.fn ..,h| .rE ..,.yl ..,h| .rE ..,.agg ..,h| .rE ..,.dD ..,h=>by simp[ln]at h
 |.agg ..,.p _,h| .agg ..,.ptr ..,h| .agg ..,.sl ..,h| .agg ..,.mp ..,h| .agg ..,.fn ..,h| .agg ..,.yl ..,h| .agg ..,.rE ..,h| .agg ..,.dD ..,h=>by simp[ln]at h
 |.dD ..,.p _,h| .dD ..,.ptr ..,h| .dD ..,.sl ..,h| .dD ..,.mp ..,h| .dD ..,.fn ..,h| .dD ..,.yl ..,h| .dD ..,.rE ..,h| .dD ..,.agg ..,h=>by simp[ln]at h
theorem lW:∀{a b:List AV},zk a b=true->a=b
 |[],[],_=>rfl
 |x::l,y::l',h=>by simp only[zk,al]at h;rw[rp h.1,lW h.2]
 |[],_::_,h=>by simp[zk]at h
 |_::_,[],h=>by simp[zk]at h
end
theorem Lu{x y:AO}(h:Yx x y=true):x=y:=by
 unfold Yx at h;split at h
 . simp only[al]at h;rw[lW h.1,ah h.2]
 . rw[ah h]
 . simp only[al]at h;rw[ah h.1.1,ah h.1.2,ah h.2]
 . simp only[al,aJ]at h;rw[h.1,ah h.2]
 . cases h
def Z5(ops:Array Oper):List Nat->Array Bool->Prop
 |[],l=>Region.ready .any ops l=[]
 |i::rest,l=>i∈Region.ready .any ops l/\Z5 ops rest (l.setIfInBounds i true)
theorem Zj{ops:Array Oper}:∀(fuel t:Nat) (l:Array Bool),l.size=ops.size->D.left ops l<=fuel->Z5 ops (Region.linearise.go .any ops fuel t l []) l:=by
 intro fuel
 induction fuel with
 |zero=>
  intro t l hs hl
  simp only[Region.linearise.go,List.reverse_nil,Z5]
  cases hr:Region.ready .any ops l with
  |nil=>rfl
  |cons i r=>
   have hi:i∈Region.ready .any ops l:=by rw[hr];simp
   obtain⟨h1,o,h2,_⟩:=Go.mem_ready.1 hi
   have hlt:i<ops.size:=(Array.getElem?_eq_some_iff.1 h2).1
   have:=D.xI hs hlt ((D.rH (by omega)).1 h1)
   omega
 |succ fuel ih=>
  intro t l hs hl
  simp only[Region.linearise.go]
  change Z5 ops (match(Region.ready .any ops l)[t % (Region.ready .any ops l).length]? with
   |some i=>Region.linearise.go .any ops fuel (t/(Region.ready .any ops l).length) (l.setIfInBounds i true) [i]
   |none=>[].reverse) l
  cases hi:(Region.ready .any ops l)[t % (Region.ready .any ops l).length]? with
  |none=>
   cases hr:Region.ready .any ops l with
   |nil=>simp only[List.reverse_nil,Z5];exact hr
   |cons x xs=>
    rw[hr]at hi
    have hlt:t % (x::xs).length<(x::xs).length:=Nat.mod_lt _ (by simp)
    rw[List.getElem?_eq_getElem hlt]at hi;cases hi
  |some i=>
   simp only[]
   rw[Go.linearise_go_acc,List.reverse_singleton,List.singleton_append]
   have hm:=List.mem_of_getElem? hi
   obtain⟨h1,o,h2,_⟩:=Go.mem_ready.1 hm
   have hlt:i<ops.size:=(Array.getElem?_eq_some_iff.1 h2).1
   have:=D.xI hs hlt ((D.rH (by omega)).1 h1)
   exact⟨hm,ih _ _ (by simp[hs]) (by omega)⟩
def vJ(ops:Array Oper)(l:Array Bool):Prop:=∀j o,ops[j]?=some o->D.l8 l j->∀e∈o.after,Region.binds .any e=true->D.l8 l e.on
theorem vJ.next{ops:Array Oper}{l:Array Bool}{i:Nat}(hc:vJ ops l)(hs:l.size=ops.size)(hi:i∈Region.ready .any ops l):vJ ops (l.setIfInBounds i true):=by
 obtain⟨h1,o,h2,h3⟩:=Go.mem_ready.1 hi;have hlt:i<l.size:=by rw[hs];exact(Array.getElem?_eq_some_iff.1 h2).1
 intro j o' ho' hj e he hb;rw[D.ji hlt]at hj ⊢;rcases hj with rfl|hj
 . rw[h2]at ho';cases ho';exact .inr (h3 e he hb)
 . exact .inr (hc j o' ho' hj e he hb)
theorem vJ.start(ops:Array Oper):vJ ops (Array.replicate ops.size false):=fun j o _ hj=>absurd hj (D.pY _ _)
end Go.Proofs.YtjfkdglgecgjfaaGreat.R
namespace Go.Proofs.YtjfkdglgecgjfaaGreat.R
open Go.RowKit
section
variable {P:Program}{b:Frame}{a:Act}{ops:Array Oper}{i:Nat}{rest:List Nat}{k:List Item}{cs:List Frame}{w w':World}{o:Oper}
theorem Ss(ho:ops[i]?=some o)(v:Value):(b.atR a (.inRegion ops (i::rest)::k)).finish v=b.atR (a.put o.dst v) (.inRegion ops rest::k):=by
 rw[Frame.finish_atR,ho];rfl
theorem Eh(ho:ops[i]?=some o)(hw:Region.wanted o (yielded ops a.tmps)=true)(hd:∀c,o.op≠ .defer c){v:Value}(hr:(execOp a.eval o).run P w=.ok (.value v) w'):
 step P (lone (b.atR a (.inRegion ops (i::rest)::k)) cs w)=.next (lone (b.atR (a.put o.dst v) (.inRegion ops rest::k)) cs w'):=
 step_lone_go (by rw[stepGR_op ho hw,Oper.semAt_eq _ _ _ hd,<- Ss ho];simp[stepG.apply,hr])
theorem vD(ho:ops[i]?=some o)(hw:Region.wanted o (yielded ops a.tmps)=false):
 step P (lone (b.atR a (.inRegion ops (i::rest)::k)) cs w)=.next (lone (b.atR (a.put o.dst undef) (.inRegion ops rest::k)) cs w):=by
 have:=stepR_op_skip (P:=P) (b:=b) (a:=a) (k:=k) (cs:=cs) (w:=w) (ops:=ops) (i:=i) (rest:=rest) (by simp[ho,hw])
 rw[ho]at this;exact this
end
section
variable {P:Program}{w0 w:World}{ρ ρ':lP}{h:HS}{K K0:Tr AV}{ops:Array Oper}{n:Nat}{o:Oper}
theorem xN(i t:Nat):∀(ts:List Tmp) (K:Tr AV),(Hd ops K0 i ts K).get t=K.get t\/((Hd ops K0 i ts K).get t=K0.get t/\∃j,D.writer ops t=some j/\D.pO ops j i=false)
 |[],K=>.inl rfl
 |s::ts,K=>by
  simp only[Hd]
  cases hw:D.writer ops s with
  |none=>exact xN i t ts K
  |some j=>
   dsimp only
   cases hb:D.pO ops j i with
   |true=>exact xN i t ts K
   |false=>
    rcases xN i t ts (K.put s (K0.get s))with h1|h1
    . rw[iu]at h1
      split at h1
      . rename_i e;subst e;exact .inr ⟨h1,j,hw,hb⟩
      . exact .inl h1
    . exact .inr h1
theorem xO(i t j:Nat)(hw:D.writer ops t=some j)(hb:D.pO ops j i=false):∀(ts:List Tmp) (K:Tr AV),(t∈ts\/K.get t=K0.get t)->(Hd ops K0 i ts K).get t=K0.get t
 |[],K,hm=>by rcases hm with h1|h1;cases h1;exact h1
 |s::ts,K,hm=>by
  simp only[Hd];by_cases e:t=s
  . subst e;rw[hw];simp only[hb];exact xO i t j hw hb ts _ (.inr (by rw[pj]))
  . have hm':t∈ts\/K.get t=K0.get t:=by
     rcases hm with h1|h1
     . exact .inl ((aB.1 h1).resolve_left e)
     . exact .inr h1
    cases hw':D.writer ops s with
    |none=>exact xO i t j hw hb ts K hm'
    |some j'=>
     dsimp only
     cases hb':D.pO ops j' i with
     |true=>exact xO i t j hw hb ts K hm'
     |false=>exact xO i t j hw hb ts _ (by rw[dK _ _ e];exact hm')
structure yI(ρ:lP)(n:Nat)(K:Tr AV)(ops:Array Oper)(K0:Tr AV)(todo:List Nat)(pend:List (Nat×Fl))(rest:List Nat)(tmps:Array Value)(un:List Nat)(l:Array Bool):Prop where
 nW:K9 ops n=true
 ZU:todo.Nodup
 size:l.size=ops.size
 Vn:Z5 ops rest l
 closed:vJ ops l
 chain:∀i o,ops[i]?=some o->CM o.op=true->(¬ D.l8 l i↔i∈todo)
 todo:∀i∈todo,∃o,ops[i]?=some o/\CM o.op=true
 quiet:∀i o,ops[i]?=some o->CM o.op=false->¬ D.l8 l i->∃fl,(i,fl)∈pend
 news:∀i q,(i,Fl.new q)∈pend->¬ D.l8 l i->q∈un
 Q5:∀i,(i,Fl.no)∈pend->¬ D.l8 l i
 keys:∀i fl,(i,fl)∈pend->∃o,ops[i]?=some o/\CM o.op=false
 Ek:tmps.size=n
 Vz:∀t x,K.get t=some x->(∀j,D.writer ops t=some j->D.l8 l j)->∃v,conv ρ x=some v/\tmps[t]?=some v
 Yi:∀t x,K0.get t=some x->(∀j,D.writer ops t=some j->¬ D.l8 l j)->∃v,conv ρ x=some v/\tmps[t]?=some v
theorem yI.mono{todo:List Nat}{pend:List (Nat×Fl)}{rest:List Nat}{tmps:Array Value}{un:List Nat}{l:Array Bool}(e:Ext ρ ρ')(D:yI ρ n K ops K0 todo pend rest tmps un l):yI ρ' n K ops K0 todo pend rest tmps un l:=
 ⟨D.nW,D.ZU,D.size,D.Vn,D.closed,D.chain,D.todo,D.quiet,D.news,D.Q5,D.keys,D.Ek,fun t x h1 h2=>let⟨v,k1,k2⟩:=D.Vz t x h1 h2;⟨v,fV e _ _ k1,k2⟩,fun t x h1 h2=>let⟨v,k1,k2⟩:=D.Yi t x h1 h2;⟨v,fV e _ _ k1,k2⟩⟩
theorem Kx{a:Act}{t:Nat}{v:Value}(h:a.tmps[t]?=some v):a.eval (.tmp t)=v:=by
 simp[Act.eval,Array.getD_eq_getD_getElem?,h]
theorem nX(hc:K9 ops n=true):D.tidy ops n=true/\∀i o,ops[i]?=some o->∀t∈o.looksAt ops,∀j,D.writer ops t=some j->D.pO ops j i=true\/D.pO ops i j=true:=by
 unfold K9 at hc;rw[al]at hc;refine⟨hc.1,fun i o ho t ht j hj=>?_⟩;have hi:i<ops.size:=(Array.getElem?_eq_some_iff.1 ho).1;have:=aE.1 hc.2 i (List.mem_range.2 hi);simp only[OA,ho]at this;have:=aE.1 this t ht;simp only[hj,Bool.or_eq_true]at this;exact this
section
variable {todo:List Nat}{pend:List (Nat×Fl)}{rest:List Nat}{tmps:Array Value}{un:List Nat}{l:Array Bool}{i:Nat}
theorem LZ(hD:yI ρ n K ops K0 todo pend rest tmps un l)(ho:ops[i]?=some o)(hr:i∈Region.ready .any ops l){t:Nat}(ht:t∈o.looksAt ops){x:AV}(hx:(Bu ops K0 K i o).get t=some x):∃v,conv ρ x=some v/\tmps[t]?=some v:=by
 obtain⟨_,hreads⟩:=nX hD.nW;obtain⟨h1,o',h2,h3⟩:=Go.mem_ready.1 hr;rw[ho]at h2;cases h2;have hlt:i<l.size:=by rw[hD.size];exact(Array.getElem?_eq_some_iff.1 ho).1
 have hni:=(D.rH hlt).1 h1;have anc:∀j,D.pO ops j i=true->D.l8 l j:=fun j hb=>D.nQ hD.closed j i o ho h3 hb
 have later:∀j,D.writer ops t=some j->D.pO ops j i=false->¬ D.l8 l j:=fun j hw hb hl=>by
  rcases hreads i o ho t ht j hw with h4|h4
  . rw[h4]at hb;cases hb
  . obtain⟨oj,hoj,_⟩:=D.Aq hw;exact hni (D.Nf hD.closed (D.ur h4) fun o' ho'=>hD.closed j o' ho' hl)
 rcases xN (K0:=K0) i t (o.looksAt ops) K with h4|⟨h4,j,h5,h6⟩
 . unfold Bu at hx;rw[h4]at hx
   cases hw:D.writer ops t with
   |none=>exact hD.Vz t x hx fun j hj=>by rw[hw]at hj;cases hj
   |some j=>
    cases hb:D.pO ops j i with
    |true=>exact hD.Vz t x hx fun j' hj=>by rw[hw]at hj;cases hj;exact anc j hb
    |false=>
     have:=xO (K0:=K0) i t j hw hb (o.looksAt ops) K (.inl ht)
     rw[<- h4,this]at hx
     exact hD.Yi t x hx fun j' hj=>by rw[hw]at hj;cases hj;exact later j hw hb
 . unfold Bu at hx;rw[h4]at hx;exact hD.Yi t x hx fun j' hj=>by rw[h5]at hj;cases hj;exact later j h5 h6
theorem S4(hD:yI ρ n K ops K0 todo pend rest tmps un l)(ho:ops[i]?=some o)(hr:i∈Region.ready .any ops l){ds:List Deferred}:sI ρ (Bu ops K0 K i o) ⟨tmps,ds⟩ o.op:=by
 intro x v hx hv
 cases x with
 |tmp t=>
  have ht:t∈o.looksAt ops:=by
   unfold Oper.looksAt;refine aU _ (List.mem_filterMap.2 ⟨.tmp t,by simpa using hx,rfl⟩)
  obtain⟨u,h1,h2⟩:=LZ hD ho hr ht hv
  rw[Kx h2];exact h1
 |const c=>simp only[eB,af]at hv;subst hv;exact iI c
 |global g=>simp only[eB,af]at hv;subst hv;rfl
 |func f=>simp only[eB,af]at hv;subst hv;rfl
theorem PR{x:AV}{c:Bool}(hx:conv ρ x=some (.bool c)):x=.p (.bool c):=by
 cases x with
 |p v=>rw[dR hx]
 |ptr q f=>obtain⟨_,_,h1⟩:=jx hx;cases h1
 |sl q f m c z=>obtain⟨_,_,h1⟩:=ij hx;cases h1
 |mp q=>obtain⟨_,_,h1⟩:=lj hx;cases h1
 |fn f x y=>obtain⟨_,_,h1⟩:=Gv hx;cases h1
 |yl q=>obtain⟨_,h1⟩:=Gw hx;cases h1
 |rE t v=>obtain⟨_,_,h1⟩:=xa hx;cases h1
 |agg l=>obtain⟨_,_,h1⟩:=CI hx;cases h1
 |dD l=>obtain⟨_,_,h1⟩:=I1 hx;cases h1
theorem Db{M:Tr AV}{g:Bool}(hg:kF ops M o=some g)(hk:∀t x,t∈o.looksAt ops->M.get t=some x->∃v,conv ρ x=some v/\tmps[t]?=some v):Region.wanted o (yielded ops tmps)=g:=by
 unfold kF at hg;unfold Region.wanted
 cases hgd:o.guard with
 |none=>rw[hgd]at hg;simpa using hg
 |some p=>
  obtain⟨j,want⟩:=p
  rw[hgd]at hg
  simp only[ab,aa]at hg
  obtain⟨x,⟨d,h1,h2⟩,h3⟩:=hg
  have hm:d∈o.looksAt ops:=by
   unfold Oper.looksAt;refine ba _ ?_;rw[hgd];simp only[n8]at h1;simp[h1]
  obtain⟨v,k1,k2⟩:=hk d x hm h2
  simp only[yielded]
  simp only[n8]at h1
  rw[h1]
  simp only[ae,k2]
  cases v with
  |bool c=>
   rw[PR k1]at h3
   simp only at h3 ⊢
   rw[<- h3];cases c<;>cases want<;>rfl
  |_=>
   have hb:∀c,x≠ .p (.bool c):=fun c e=>by rw[e]at k1;have:=dR k1;cases this
   have:g=false:=by
    rw[<- h3];split
    . exact absurd rfl (hb _)
    . rfl
   rw[this];rfl
theorem yI.put(hD:yI ρ n K ops K0 todo pend rest tmps un l)(e:Ext ρ ρ')(ho:ops[i]?=some o){tl todo':List Nat}{pend':List (Nat×Fl)}{un':List Nat}{K':Tr AV}(hr:rest=i::tl)(htn:todo'.Nodup){v':Value}(hK:∀t,o.dst≠some t->K'.get t=K.get t)
 (hv:∀d x,o.dst=some d->K'.get d=some x->conv ρ' x=some v')
 (hch:∀j oj,ops[j]?=some oj->CM oj.op=true->(¬ D.l8 (l.setIfInBounds i true) j↔j∈todo')) (htd:∀j∈todo',∃o,ops[j]?=some o/\CM o.op=true)
 (hq:∀j oj,ops[j]?=some oj->CM oj.op=false->¬ D.l8 (l.setIfInBounds i true) j->∃fl,(j,fl)∈pend')
 (hn:∀j q,(j,Fl.new q)∈pend'->¬ D.l8 (l.setIfInBounds i true) j->q∈un') (hno:∀j,(j,Fl.no)∈pend'->¬ D.l8 (l.setIfInBounds i true) j) (hky:∀i fl,(i,fl)∈pend'->∃o,ops[i]?=some o/\CM o.op=false) {ds:List Deferred}:
 yI ρ' n K' ops K0 todo' pend' tl ((⟨tmps,ds⟩:Act).put o.dst v').tmps un' (l.setIfInBounds i true):=by
 obtain⟨htidy,_⟩:=nX hD.nW
 have hl:=hD.Vn
 rw[hr]at hl
 obtain⟨hready,hl2⟩:=hl
 have hlt:i<l.size:=by rw[hD.size];exact(Array.getElem?_eq_some_iff.1 ho).1
 have htop:=(D.pJ htidy ho).1
 have hsz:((⟨tmps,ds⟩:Act).put o.dst v').tmps.size=n:=by
  rw[<- hD.Ek];cases o.dst<;>simp[Act.put]
 have other:∀t,o.dst≠some t->((⟨tmps,ds⟩:Act).put o.dst v').tmps[t]?=tmps[t]?:=fun t ht=>by
  cases hd:o.dst with
  |none=>rfl
  |some d=>
   have:d≠t:=fun e=>ht (by rw[hd,e])
   simp only[Act.put]
   rw[Array.getElem?_setIfInBounds_ne this]
 refine⟨hD.nW,htn,by simp[hD.size],hl2,hD.closed.next hD.size hready,hch,htd,hq,hn,hno,hky,hsz,fun t x hx hw=>?_,fun t x hx hw=>?_⟩
 . by_cases ht:o.dst=some t
   . refine⟨v',hv t x ht hx,?_⟩
     have:=(htop t ht).2
     rw[ht]
     simp only[Act.put]
     rw[Array.getElem?_setIfInBounds_self_of_lt (by rw[hD.Ek];exact this)]
   . rw[hK t ht]at hx
     obtain⟨u,k1,k2⟩:=hD.Vz t x hx fun j hj=>by
      have:=hw j hj;rw[D.ji hlt]at this;rcases this with rfl|h5
      . obtain⟨oj,g1,g2⟩:=D.Aq hj;rw[ho]at g1;cases g1;exact absurd g2 ht
      . exact h5
     exact⟨u,fV e _ _ k1,by rw[other t ht];exact k2⟩
 . have ht:o.dst≠some t:=fun ht=>hw i (htop t ht).1 (by rw[D.ji hlt];exact .inl rfl)
   obtain⟨u,k1,k2⟩:=hD.Yi t x hx fun j hj hl3=>hw j hj (by rw[D.ji hlt];exact .inr hl3)
   exact⟨u,fV e _ _ k1,by rw[other t ht];exact k2⟩
theorem oG{i q:Nat}:∀{pend:List (Nat×Fl)},(i,Fl.new q)∈pend->q∈wc pend
 |(j,.new q')::l,h=>by
  rcases aB.1 h with h1|h1
  . cases h1;exact aq ..
  . exact au _ (oG h1)
 |(j,.no)::l,h=>by
  rcases aB.1 h with h1|h1
  . cases h1
  . exact oG (pend:=l) h1
 |(j,.val)::l,h=>by
  rcases aB.1 h with h1|h1
  . cases h1
  . exact oG (pend:=l) h1
theorem xW:∀{l:List Nat},Hg l=true->l.Nodup
 |[],_=>List.nodup_nil
 |x::l,h=>by
  simp only[Hg,al,Bool.not_eq_true']at h;refine List.nodup_cons.2 ⟨fun hm=>?_,xW h.2⟩;have:l.any (Nat.beq x)=true:=bC.2 ⟨x,hm,Nat.beq_refl x⟩;rw[this]at h;exact absurd h.1 (by decide)
theorem xQ{i j q:Nat}:∀{pend:List (Nat×Fl)},(wc pend).Nodup->(i,Fl.new q)∈pend->(j,Fl.new q)∈pend->i=j
 |(s,.new q')::l,hn,h1,h2=>by
  simp only[wc,List.nodup_cons]at hn;rcases aB.1 h1 with a1|a1<;>rcases aB.1 h2 with a2|a2
  . cases a1;cases a2;rfl
  . cases a1;exact absurd (oG a2) hn.1
  . cases a2;exact absurd (oG a1) hn.1
  . exact xQ hn.2 a1 a2
 |(s,.no)::l,hn,h1,h2=>by
  rcases aB.1 h1 with a1|a1
  . cases a1
  rcases aB.1 h2 with a2|a2
  . cases a2
  exact xQ (pend:=l) hn a1 a2
 |(s,.val)::l,hn,h1,h2=>by
  rcases aB.1 h1 with a1|a1
  . cases a1
  rcases aB.1 h2 with a2|a2
  . cases a2
  exact xQ (pend:=l) hn a1 a2
theorem VT{d:Option Nat}{v:AV}(e:I7 K n d v=true):∀t x,d=some t->K.get t=some x->x=v:=by
 intro t x hd hx;subst hd;simp only[I7,hx,al]at e;exact rp e.2
def KI:List Nat->List Nat->Prop
 |[],r=>r=[]
 |c::_,r=>∃tl,r=c::tl
theorem drain{P:Program}{w0:World}(hc:K9 ops n=true)(hS:RP P ops K0 n todo h K pend=true){b:Frame}{ds:List Deferred}{k:List Item}{cs:List Frame}:
 ∀(rest:List Nat) (l:Array Bool) (tmps:Array Value) (ρ:lP) (w:World) (un:List Nat),WR w0 ρ h w->yI ρ n K ops K0 todo pend rest tmps un l->un.Nodup->(∀q∈un,ρ q=none)->
 ∃rest' l' tmps' ρ' w' un',Steps P (lone (b.atR ⟨tmps,ds⟩ (.inRegion ops rest::k)) cs w) (lone (b.atR ⟨tmps',ds⟩ (.inRegion ops rest'::k)) cs w')/\Ext ρ ρ'/\WR w0 ρ' h w'/\yI ρ' n K ops K0 todo pend rest' tmps' un' l'/\
  un'.Nodup/\(∀q∈un',q∈un)/\(∀q∈un',ρ' q=none)/\(∀q,ρ q=none->q ∉ un->ρ' q=none)/\KI todo rest':=by
 intro rest
 have hS':=hS
 unfold RP at hS'
 simp only[al]at hS'
 obtain⟨⟨⟨s1,s2⟩,s3⟩,s4⟩:=hS'
 have hnd:=xW s3
 obtain⟨htidy,_⟩:=nX hc
 induction rest with
 |nil=>
  intro l tmps ρ w un H hD hu hun
  refine⟨[],l,tmps,ρ,w,un,Steps.refl P _,Ext.refl ρ,H,hD,hu,fun _ h=>h,hun,fun _ h _=>h,?_⟩
  cases todo with
  |nil=>rfl
  |cons c t=>
   exfalso
   have hall:=D.Cf htidy hD.size hD.Vn
   obtain⟨o,g1,g2⟩:=hD.todo c (aq ..)
   have:=(hD.chain c o g1 g2).2 (aq ..)
   exact this (hall c (Array.getElem?_eq_some_iff.1 g1).1)
 |cons i tl ih=>
  intro l tmps ρ w un H hD hu hun
  have hready:=hD.Vn.1
  obtain⟨h1,o,ho,h3⟩:=Go.mem_ready.1 hready
  have hlt:i<l.size:=by rw[hD.size];exact(Array.getElem?_eq_some_iff.1 ho).1
  have hni:=(D.rH hlt).1 h1
  have anc:∀j,D.pO ops j i=true->D.l8 l j:=fun j hb=>D.nQ hD.closed j i o ho h3 hb
  cases he:CM o.op with
  |true=>
   have hm:=(hD.chain i o ho he).1 hni
   refine⟨i::tl,l,tmps,ρ,w,un,Steps.refl P _,Ext.refl ρ,H,hD,hu,fun _ h=>h,hun,fun _ h _=>h,?_⟩
   cases todo with
   |nil=>cases hm
   |cons c t=>
    rcases aB.1 hm with rfl|hm
    . exact⟨tl,rfl⟩
    . exfalso
      obtain⟨oc,g1,g2⟩:=hD.todo c (aq ..)
      exact(hD.chain c oc g1 g2).2 (aq ..) (anc c (aE.1 s4 i hm))
  |false=>
   obtain⟨fl,hfl⟩:=hD.quiet i o ho he hni
   have hno:Wn fl=false:=by
    have:=aE.1 s2 _ hfl;simp only[Bool.or_eq_true,Bool.not_eq_true',bC]at this;rcases this with h5|⟨c,h5,h6⟩
    . exact h5
    . exfalso;obtain⟨oc,g1,g2⟩:=hD.todo c h5;exact(hD.chain c oc g1 g2).2 h5 (anc c h6)
   have nos1:∀j,(j,Fl.no)∈pend->¬ D.l8 (l.setIfInBounds i true) j:=fun j hj h5=>by
    rw[D.ji hlt]at h5;rcases h5 with rfl|h5
    . have:=aE.1 s2 _ hj;simp only[Wn,Bool.not_true,Bool.false_or,bC]at this;obtain⟨c,h5,h6⟩:=this;obtain⟨oc,g1,g2⟩:=hD.todo c h5;exact(hD.chain c oc g1 g2).2 h5 (anc c h6)
    . exact hD.Q5 j hj h5
   have hq:=aE.1 s1 _ hfl
   have hnd':∀c,o.op≠ .defer c:=fun c e=>by rw[e]at he;cases he
   have hev:=S4 hD ho hready (ds:=ds)
   have hguard:∀{g:Bool},kF ops (Bu ops K0 K i o) o=some g->Region.wanted o (yielded ops tmps)=g:=fun hg=>Db hg fun t x ht hx=>LZ hD ho hready ht hx
   have next:∀{ρ':lP} {w':World} {v':Value} {un':List Nat} {u:AV},Ext ρ ρ'->WR w0 ρ' h w'->step P (lone (b.atR ⟨tmps,ds⟩ (.inRegion ops (i::tl)::k)) cs w)=.next (lone (b.atR ((⟨tmps,ds⟩:Act).put o.dst v') (.inRegion ops tl::k)) cs w')->
    I7 K n o.dst u=true->conv ρ' u=some v'->(∀j q,(j,Fl.new q)∈pend->¬ D.l8 (l.setIfInBounds i true) j->q∈un')->un'.Nodup->(∀q∈un',q∈un)->(∀q∈un',ρ' q=none)->(∀q,ρ q=none->q ∉ un->ρ' q=none)->
    ∃rest' l' tmps' ρ' w' un',Steps P (lone (b.atR ⟨tmps,ds⟩ (.inRegion ops (i::tl)::k)) cs w) (lone (b.atR ⟨tmps',ds⟩ (.inRegion ops rest'::k)) cs w')/\Ext ρ ρ'/\WR w0 ρ' h w'/\yI ρ' n K ops K0 todo pend rest' tmps' un' l'/\
     un'.Nodup/\(∀q∈un',q∈un)/\(∀q∈un',ρ' q=none)/\(∀q,ρ q=none->q ∉ un->ρ' q=none)/\KI todo rest':=fun{ρ1 w1 v' un1 u} e1 H1 hst hdst hu' hnews hun1 hsub hnone hkeep=>by
    have hD1:=hD.put (i:=i) (tl:=tl) (K':=K) (todo':=todo) (pend':=pend) (un':=un1) (v':=v') (ds:=ds) e1 ho rfl hD.ZU (fun _ _=>rfl) (fun d x hd hx=>by rw[VT hdst d x hd hx];exact hu')
     (fun j oj hoj hej=>by
      rw[D.ji hlt,<- hD.chain j oj hoj hej];constructor
      . intro h5 h6;exact h5 (.inr h6)
      . rintro h5 (rfl|h6)
        . rw[ho]at hoj;cases hoj;rw[he]at hej;cases hej
        . exact h5 h6)
     hD.todo (fun j oj hoj hej hl=>hD.quiet j oj hoj hej fun h6=>hl (by rw[D.ji hlt];exact .inr h6)) hnews nos1 hD.keys
    have hacts:((⟨tmps,ds⟩:Act).put o.dst v')=⟨((⟨tmps,ds⟩:Act).put o.dst v').tmps,ds⟩:=by cases o.dst<;>rfl
    rw[hacts]at hst
    obtain⟨rest',l',tmps',ρ',w',un',r1,r2,r3,r4,r5,r6,r7,r8,r9⟩:=ih _ _ ρ1 w1 un1 H1 hD1 hun1 hnone
    exact⟨rest',l',tmps',ρ',w',un',Steps.head hst r1,e1.trans r2,r3,r4,r5,fun q hq=>hsub q (r6 q hq),r7,fun q hq hn=>r8 q (hkeep q hq hn) (fun h5=>hn (hsub q h5)),r9⟩
   have same_news:∀j q,(j,Fl.new q)∈pend->¬ D.l8 (l.setIfInBounds i true) j->q∈un:=fun j q hj hl=>hD.news j q hj fun h6=>hl (by rw[D.ji hlt];exact .inr h6)
   unfold Gq at hq
   cases fl with
   |no=>cases hno
   |val=>
    simp only[ho]at hq
    split at hq
    . cases hq
    . rename_i hg
      exact next (Ext.refl ρ) H (vD ho (hguard hg)) hq rfl same_news hu (fun _ h=>h) hun (fun _ h _=>h)
    . rename_i hg
      split at hq
      . rename_i v hop _
        obtain⟨v',w',r1,r2,r3⟩:=Ml (a:=⟨tmps,ds⟩) H hev hop
        exact next (Ext.refl ρ) r3 (Eh ho (hguard hg) hnd' r1) hq r2 same_news hu (fun _ h=>h) hun (fun _ h _=>h)
      . rename_i e2;cases e2
      . cases hq
   |new q=>
    simp only[ho]at hq
    split at hq
    . cases hq
    . cases hq
    . rename_i hg
      split at hq
      . rename_i e2;cases e2
      . rename_i x mk q' hop e2
        cases e2
        simp only[al]at hq
        obtain⟨hq1,hq2⟩:=hq
        split at hq2
        . rename_i y hy
          have hyx:=Lu hq2
          subst hyx
          have hmem:=hD.news i q hfl hni
          obtain⟨v',w',L,r1,r2,r3⟩:=Ml (a:=⟨tmps,ds⟩) H hev hop h q H hy (hun q hmem)
          refine next (un':=un.erase q) (lI (hun q hmem)) r3 (Eh ho (hguard hg) hnd' r1) hq1 r2 (fun j q2 hj hl=>?_) (hu.erase q) (fun q2 h5=>List.mem_of_mem_erase h5) (fun q2 h5=>?_) (fun q2 h5 h6=>?_)
          . have h7:=same_news j q2 hj hl
            refine(List.mem_erase_of_ne fun e3=>?_).2 h7
            subst e3
            have:=xQ hnd hfl hj
            subst this
            exact hl (by rw[D.ji hlt];exact .inl rfl)
          . have h7:=(hu.mem_erase_iff).1 h5
            rw[rY h7.1];exact hun q2 h7.2
          . rw[rY (fun e3=>h6 (by rw[e3];exact hmem))];exact h5
        . cases hq2
      . cases hq
end
end
end Go.Proofs.YtjfkdglgecgjfaaGreat.R
namespace Go.Proofs.YtjfkdglgecgjfaaGreat.R
open Go.RowKit
def dF(ρ:lP):AI->Option Item
 |.code c=>some (.code c)
 |.mQ id=>some (.inBlock id)
 |.lp c=>some (.inLoop c)
 |.sc c=>some (.inScope c)
 |.ops ops l=>some (.inRegion ops l)
 |.qA _ _ _ _=>none
 |.rf o=>(ρ o).map fun l=>.inRangeFunc l.b
 |.er o=>(ρ o).map fun l=>.endRangeFunc l.b
 |.br=>some .beginRound
def ez(ρ:lP):List AI->Option (List Item)
 |[]=>some []
 |x::l=>(dF ρ x).bind fun y=>(ez ρ l).map (y:: ·)
def gQ(ρ:lP):List AD->Option (List Deferred)
 |[]=>some []
 |x::l=>(te ρ x).bind fun y=>(gQ ρ l).map (y:: ·)
def ju(ρ:lP):List (AV×Bool)->Option (List PanicEntry)
 |[]=>some []
 |(x,c)::l=>(conv ρ x).bind fun y=>(ju ρ l).map ({v:=y,recovered:=c}:: ·)
def gF(ρ:lP):AM->Option FrameMode
 |.run=>some .run
 |.ret=>some .returning
 |.KH l=>(ju ρ l).map .panicking
def RdR(ρ:lP):Option Nat->Option Nat->Prop
 |none,r=>r=none
 |some o,r=>∃l,ρ o=some l/\r=some l.b
def B8(ρ:lP)(n:Nat)(K:Tr AV)(un:List Nat)(tmps:Array Value)(todo:List Item):List AI->Prop
 |.qA ops K0 td pend::k=>∃rest k' l,todo=.inRegion ops rest::k'/\ez ρ k=some k'/\yI ρ n K ops K0 td pend rest tmps un l
 |l=>ez ρ l=some todo/\sA ρ n K tmps
def Vl:List AI->List Item->Prop
 |.qA _ _ td _::_,.inRegion _ rest::_=>KI td rest
 |.qA _ _ _ _::_,_=>False
 |_,_=>True
structure FR(ρ:lP)(A:AF)(fr:Frame)(un:List Nat):Prop where
 fn:fr.fn=A.fn
 kind:fr.kind=A.kind
 rd:RdR ρ A.rd fr.roundOf
 mode:gF ρ A.mode=some fr.mode
 ds:gQ ρ A.ds=some fr.defers
 body:B8 ρ A.n A.K un fr.tmps fr.todo A.todo
 sus:A.mode=.run\/Vl A.todo fr.todo
inductive Iq(ρ:lP):List AF->List Frame->List Nat->Prop
 |nil:Iq ρ [] [] []
 |cons {A:AF} {fr:Frame} {u:List Nat} {As:List AF} {frs:List Frame} {us:List Nat}:FR ρ A fr u->Vl A.todo fr.todo->Iq ρ As frs us->Iq ρ (A::As) (fr::frs) (u++us)
section
variable {ρ ρ':lP}{un:List Nat}
theorem Lg(e:Ext ρ ρ'){x:AD}{y:Deferred}(h:te ρ x=some y):te ρ' x=some y:=by
 cases x with
 |call f c a=>
  simp only[te,aa,ab]at h ⊢
  obtain⟨c',h1,a',h2,h3⟩:=h
  exact⟨c',fc e _ _ h1,a',fc e _ _ h2,h3⟩
 |RU o=>
  simp only[te,ab]at h ⊢
  obtain⟨l,h1,h2⟩:=h;exact⟨l,e _ _ h1,h2⟩
theorem pa(e:Ext ρ ρ'):∀{x:List AD} {y:List Deferred},gQ ρ x=some y->gQ ρ' x=some y
 |[],_,h=>by simpa only[gQ]using h
 |x::l,_,h=>by
  simp only[gQ,aa,ab]at h ⊢;obtain⟨y,h1,l',h2,h3⟩:=h;exact⟨y,Lg e h1,l',pa e h2,h3⟩
theorem Lh(e:Ext ρ ρ'){x:AI}{y:Item}(h:dF ρ x=some y):dF ρ' x=some y:=by
 cases x<;>first
  |(simpa only[dF]using h;done)
  |(simp only[dF,ab]at h ⊢; obtain⟨l,h1,h2⟩:=h;exact⟨l,e _ _ h1,h2⟩)
theorem jv(e:Ext ρ ρ'):∀{x:List AI} {y:List Item},ez ρ x=some y->ez ρ' x=some y
 |[],_,h=>by simpa only[ez]using h
 |x::l,_,h=>by
  simp only[ez,aa,ab]at h ⊢;obtain⟨y,h1,l',h2,h3⟩:=h;exact⟨y,Lh e h1,l',jv e h2,h3⟩
theorem CE(e:Ext ρ ρ'):∀{x:List (AV×Bool)} {y:List PanicEntry},ju ρ x=some y->ju ρ' x=some y
 |[],_,h=>by simpa only[ju]using h
 |(x,c)::l,_,h=>by
  simp only[ju,aa,ab]at h ⊢;obtain⟨y,h1,l',h2,h3⟩:=h;exact⟨y,fV e _ _ h1,l',CE e h2,h3⟩
theorem CG(e:Ext ρ ρ'){x:AM}{y:FrameMode}(h:gF ρ x=some y):gF ρ' x=some y:=by
 cases x with
 |KH l=>
  simp only[gF,ab]at h ⊢
  obtain⟨l',h1,h2⟩:=h;exact⟨l',CE e h1,h2⟩
 |_=>simpa only[gF]using h
theorem RdR.mono(e:Ext ρ ρ'):∀{x y:Option Nat},RdR ρ x y->RdR ρ' x y
 |none,_,h=>h
 |some _,_,⟨l,h1,h2⟩=>⟨l,e _ _ h1,h2⟩
theorem B8.mono(e:Ext ρ ρ'){n:Nat}{K:Tr AV}{tmps:Array Value}{todo:List Item}{l:List AI}(h:B8 ρ n K un tmps todo l):B8 ρ' n K un tmps todo l:=by
 unfold B8 at h ⊢;split at h
 . obtain⟨rest,k',l,h1,h2,h3⟩:=h;exact⟨rest,k',l,h1,jv e h2,h3.mono e⟩
 . exact⟨jv e h.1,h.2.mono e⟩
theorem FR.mono(e:Ext ρ ρ'){A:AF}{fr:Frame}(h:FR ρ A fr un):FR ρ' A fr un:=
 ⟨h.fn,h.kind,h.rd.mono e,CG e h.mode,pa e h.ds,h.body.mono e,h.sus⟩
theorem Iq.mono(e:Ext ρ ρ'){As:List AF}{frs:List Frame}{us:List Nat}(h:Iq ρ As frs us):Iq ρ' As frs us:=by
 induction h with
 |nil=>exact .nil
 |cons h1 h2 _ ih=>exact .cons (h1.mono e) h2 ih
def Plain:List AI->Prop
 |.qA _ _ _ _::_=>False
 |_=>True
theorem cY{n:Nat}{K:Tr AV}{tmps:Array Value}{todo:List Item}{l:List AI}(hp:Plain l):B8 ρ n K un tmps todo l↔(ez ρ l=some todo/\sA ρ n K tmps):=by
 unfold B8;split
 . exact hp.elim
 . rfl
theorem dk{x:AI}{l:List AI}{ys:List Item}(h:ez ρ (x::l)=some ys):∃y l',ys=y::l'/\dF ρ x=some y/\ez ρ l=some l':=by
 simp only[ez,aa,ab]at h;obtain⟨y,h1,l',h2,h3⟩:=h;exact⟨y,l',h3.symm,h1,h2⟩
theorem dp{x:AI}{l:List AI}{y:Item}{l':List Item}(h1:dF ρ x=some y)(h2:ez ρ l=some l'):ez ρ (x::l)=some (y::l'):=by
 simp only[ez,h1,h2,ae,ak]
theorem DN{l:List AI}{l':List Item}(h:ez ρ l=some l'):Plain l:=by
 cases l with
 |nil=>trivial
 |cons x k=>
  obtain⟨y,_,_,h1,_⟩:=dk h
  cases x<;>first|trivial|cases h1
theorem Dq{A:AF}{fr:Frame}(h:FR ρ A fr un)(hm:fr.mode=.run):A.mode=.run:=by
 have:=h.mode;rw[hm]at this
 cases hA:A.mode with
 |run=>rfl
 |ret=>rw[hA]at this;cases this
 |KH l=>rw[hA]at this;simp only[gF,ab]at this;obtain⟨_,_,h2⟩:=this;cases h2
theorem sA.put{n:Nat}{K K':Tr AV}{tmps:Array Value}{d:Option Nat}{v:AV}{v':Value}(h:sA ρ n K tmps)(e:mf K n d v=some K')(hv:conv ρ v=some v'){ds:List Deferred}:sA ρ n K' ((⟨tmps,ds⟩:Act).put d v').tmps:=by
 cases d with
 |none=>simp only[mf,af]at e;subst e;exact h
 |some d=>
  simp only[mf]at e
  split at e
  . rename_i hb
    have hlt:=aj hb
    cases e
    refine⟨by simp[Act.put,h.size],fun t x hx=>?_⟩
    simp only[Act.put]
    rw[iu]at hx
    split at hx
    . rename_i e;subst e;cases hx
      exact⟨v',hv,by rw[Array.getElem?_setIfInBounds_self_of_lt];rw[h.size];exact hlt⟩
    . rename_i e
      obtain⟨u,k1,k2⟩:=h.at_ t x hx
      exact⟨u,k1,by rw[Array.getElem?_setIfInBounds_ne (fun e'=>e e'.symm)];exact k2⟩
  . cases e
theorem J3{n:Nat}{K K':Tr AV}{d:Option Nat}{v:AV}(e:mf K n d v=some K'):(∀t,d≠some t->K'.get t=K.get t)/\(∀t x,d=some t->K'.get t=some x->x=v):=by
 cases d with
 |none=>simp only[mf,af]at e;subst e;exact⟨fun _ _=>rfl,fun t x h=>by cases h⟩
 |some d=>
  simp only[mf]at e
  split at e
  . cases e
    refine⟨fun t ht=>dK _ _ (fun e'=>ht (by rw[e'])),fun t x ht hx=>?_⟩
    cases ht;rw[pj]at hx;cases hx;rfl
  . cases e
theorem eY{A A':AF}{fr:Frame}{v:AV}{v':Value}(h:FR ρ A fr un)(hs:Vl A.todo fr.todo)(hv:conv ρ v=some v')(e:cl A v=some A'):FR ρ A' (fr.finish v') un/\A'.mode=A.mode/\A'.kind=A.kind:=by
 unfold cl at e;split at e
 . rename_i ops i l k hmo hA;simp only[ab]at e;obtain⟨K',e1,rfl⟩:=e;have hb:=h.body;rw[hA,cY (by trivial)]at hb;obtain⟨hb1,hb2⟩:=hb;obtain⟨y,k',hy,h1,h2⟩:=dk hb1;cases h1;have hf:fr.finish v'={fr with tmps:=((⟨fr.tmps,fr.defers⟩:Act).put (n8 ops i) v').tmps,todo:=.inRegion ops l::k'}:=by
    unfold Frame.finish;rw[hy];simp only[n8];cases hd:(ops[i]?).bind (·.dst)<;>simp[Act.put]
   rw[hf];exact⟨⟨h.fn,h.kind,h.rd,h.mode,h.ds,(cY (by trivial)).2 ⟨dp rfl h2,hb2.put e1 hv⟩,.inl hmo⟩,rfl,rfl⟩
 . rename_i ops K0 c t pend k hmo hA;simp only[ab]at e;obtain⟨K',e1,rfl⟩:=e;have hb:=h.body;rw[hA]at hb;obtain⟨rest,k',l,hy,h2,hD⟩:=hb;rw[hA,hy]at hs;obtain⟨tl,rfl⟩:=hs;have hct:=(List.nodup_cons.1 hD.ZU).1;obtain⟨oc,g1,g2⟩:=hD.todo c (aq ..);have hlt:c<l.size:=by rw[hD.size];exact(Array.getElem?_eq_some_iff.1 g1).1
   have hready:=hD.Vn.1;obtain⟨h1,o',h3,h4⟩:=Go.mem_ready.1 hready;rw[g1]at h3;cases h3;have hdst:n8 ops c=oc.dst:=by simp[n8,g1]
   rw[hdst]at e1;obtain⟨p1,p2⟩:=J3 e1;have anc:∀j,D.pO ops j c=true->D.l8 l j:=fun j hb=>D.nQ hD.closed j c oc g1 h4 hb
   have hD':=hD.put (i:=c) (tl:=tl) (K':=K') (todo':=t) (pend':=pend.filter fun q=>!D.pO ops q.1 c) (un':=un) (v':=v') (ds:=fr.defers) (Ext.refl ρ) g1 rfl (List.nodup_cons.1 hD.ZU).2 p1 (fun d x hd hx=>by rw[p2 d x hd hx];exact hv)
    (fun j oj hoj hej=>by
     rw[D.ji hlt];have:=hD.chain j oj hoj hej;constructor
     . intro h5;have h6:=this.1 fun h7=>h5 (.inr h7)
       rcases aB.1 h6 with h7|h7
       . exact absurd (.inl h7) h5
       . exact h7
     . rintro h5 (rfl|h6)
       . exact hct h5
       . exact this.2 (au _ h5) h6)
    (fun j hj=>hD.todo j (au _ hj))
    (fun j oj hoj hej hl=>by
     have hnl:¬ D.l8 l j:=fun h6=>hl (by rw[D.ji hlt];exact .inr h6)
     obtain⟨fl,hfl⟩:=hD.quiet j oj hoj hej hnl;refine⟨fl,bu.2 ⟨hfl,?_⟩⟩
     cases hb:D.pO ops j c with
     |true=>exact absurd (anc j hb) hnl
     |false=>simp[hb])
    (fun j q hj hl=>hD.news j q (bu.1 hj).1 fun h6=>hl (by rw[D.ji hlt];exact .inr h6))
    (fun j hj h5=>by
     rw[D.ji hlt]at h5;rcases h5 with rfl|h5
     . obtain⟨oj,k1,k2⟩:=hD.keys j _ (bu.1 hj).1;rw[g1]at k1;cases k1;rw[g2]at k2;cases k2
     . exact hD.Q5 j (bu.1 hj).1 h5)
    (fun j fl hj=>hD.keys j fl (bu.1 hj).1)
   have hf:fr.finish v'={fr with tmps:=((⟨fr.tmps,fr.defers⟩:Act).put oc.dst v').tmps,todo:=.inRegion ops tl::k'}:=by
    unfold Frame.finish;rw[hy];simp only[g1,ae];cases hd:oc.dst<;>simp[Act.put]
   rw[hf];exact⟨⟨h.fn,h.kind,h.rd,h.mode,h.ds,⟨tl,k',_,rfl,h2,hD'⟩,.inl hmo⟩,rfl,rfl⟩
 . rename_i q k hmo hA;cases e;have hb:=h.body;rw[hA,cY (by trivial)]at hb;obtain⟨hb1,hb2⟩:=hb;obtain⟨y,k',hy,h1,h2⟩:=dk hb1;simp only[dF,ab]at h1;obtain⟨L,h1,rfl⟩:=h1;have hf:fr.finish v'={fr with todo:=.endRangeFunc L.b::k'}:=by
    unfold Frame.finish;rw[hy]
   rw[hf];exact⟨⟨h.fn,h.kind,h.rd,h.mode,h.ds,(cY (by trivial)).2 ⟨dp (by simp only[dF,h1,ak]) h2,hb2⟩,.inl hmo⟩,rfl,rfl⟩
 . cases e
end
end Go.Proofs.YtjfkdglgecgjfaaGreat.R
namespace Go.Proofs.YtjfkdglgecgjfaaGreat.R
open Go.RowKit
def iE(ρ:lP)(nx:Nat)(us:List Nat):Prop:=us.Nodup/\∀q∈us,ρ q=none/\q<nx
def Ir(w0:World)(cs0:List Frame)(s:qW)(m:Machine):Prop:=
 ∃ρ fr cs w u us,m=lone fr (cs++cs0) w/\WR w0 ρ s.h w/\FR ρ s.fr fr u/\Iq ρ s.cs cs us/\iE ρ s.h.nx (u++us)
def iW(P:Program)(w0:World)(cs0:List Frame)(m:Machine):ia->Prop
 |.one s| .push s| .pop s=>∃m',Steps P m m'/\Ir w0 cs0 s m'
 |.many l=>∃s∈l,∃m',Steps P m m'/\Ir w0 cs0 s m'
 |.fin| .bad _=>True
section
variable {P:Program}{w0 w w':World}{cs0 cs:List Frame}{ρ ρ':lP}{h h':HS}{u us:List Nat}{fr:Frame}{o:Oper}{ops:Array Oper}{i:Nat}{rest:List Nat}{k:List Item}{s:qW}{r:AR}
theorem iE.ext(hF:iE ρ h.nx us)(e:jl h h' ρ ρ'):iE ρ' h'.nx us:=
 ⟨hF.1,fun q hq=>⟨(e.abh q (hF.2 q hq).2).trans (hF.2 q hq).1,Nat.lt_of_lt_of_le (hF.2 q hq).2 e.nx⟩⟩
theorem cZ{m:Machine}{why:String}{x:Option ia}(hx:∀y,x=some y->iW P w0 cs0 m y):iW P w0 cs0 m (lG why x):=by
 cases x with
 |none=>trivial
 |some y=>exact hx y rfl
theorem qY(hm:fr.mode=.run):fr.atR ⟨fr.tmps,fr.defers⟩ fr.todo=fr:=by
 cases fr;cases hm;rfl
theorem uO{a:Act}{n:Next}(hn:∀d,n≠ .defer d)(hr:(execOp a.eval o).run P w=.ok n w'):∀c,o.op≠ .defer c:=by
 intro c hc;unfold execOp at hr;simp only[hc,Sem.run_bind]at hr;generalize (resolve a.eval c o.type).run P w=q at hr
 cases q with
 |ok d w1=>simp only[Result.andThen,Sem.run_pure,Result.ok.injEq]at hr;exact hn d hr.1.symm
 |halt x w1=>simp[Result.andThen]at hr
theorem oL(hm:fr.mode=.run)(ht:fr.todo=.inRegion ops (i::rest)::k)(ho:ops[i]?=some o)(hw:Region.wanted o (yielded ops fr.tmps)=true):
 stepG P true {frame:=fr,callers:=cs,status:=.running,dying:=none} w=stepG.apply P true fr cs none (o.semAt fr.roundOf (⟨fr.tmps,fr.defers⟩:Act).eval) w:=by
 have:=stepGR_op (P:=P) (b:=fr) (a:=⟨fr.tmps,fr.defers⟩) (k:=k) (cs:=cs) (w:=w) (rest:=rest) ho hw
 rw[<- ht,qY hm]at this;exact this
theorem pI(hm:fr.mode=.run)(ht:fr.todo=.inRegion ops (i::rest)::k)(ho:ops[i]?=some o)(hw:Region.wanted o (yielded ops fr.tmps)=true){v:Value}
 (hr:(execOp (⟨fr.tmps,fr.defers⟩:Act).eval o).run P w=.ok (.value v) w'\/((execOp (⟨fr.tmps,fr.defers⟩:Act).eval o).run P w=.ok .skip w'/\v=undef)):step P (lone fr cs w)=.next (lone (fr.finish v) cs w'):=by
 refine step_lone_go ?_
 rw[oL hm ht ho hw]
 rcases hr with hr|⟨hr,rfl⟩
 . rw[Oper.semAt_eq _ _ _ (uO (fun _ h=>by cases h) hr)]
   simp[stepG.apply,hr]
 . rw[Oper.semAt_eq _ _ _ (uO (fun _ h=>by cases h) hr)]
   simp[stepG.apply,hr]
theorem Eg(hm:fr.mode=.run)(ht:fr.todo=.inRegion ops (i::rest)::k)(ho:ops[i]?=some o)(hw:Region.wanted o (yielded ops fr.tmps)=false):step P (lone fr cs w)=.next (lone (fr.finish undef) cs w):=by
 have:=vD (P:=P) (b:=fr) (a:=⟨fr.tmps,fr.defers⟩) (k:=k) (cs:=cs) (w:=w) (rest:=rest) ho hw;rw[<- Ss ho,<- ht,qY hm]at this;exact this
theorem IQ:∀{l:List AV} {i:Nat} {K:Tr AV} {t:Nat} {x:AV},(PG i K l).get t=some x->(i<=t/\l[t-i]?=some x)\/K.get t=some x
 |[],i,K,t,x,h=>.inr h
 |v::l,i,K,t,x,h=>by
  simp only[PG]at h;rcases IQ h with⟨h1,h2⟩|h1
  . exact .inl ⟨by omega,by rw[show t-i=(t-(i+1))+1 by omega,List.getElem?_cons_succ];exact h2⟩
  . rw[iu]at h1;split at h1
    . rename_i e;subst e;cases h1;exact .inl ⟨Nat.le_refl _,by simp⟩
    . exact .inr h1
theorem xj{f:FuncId}{args:List AV}{aS:List Value}{kind:CallKind}{A:AF}(e:tj P f args kind=some A)(ha:bX ρ args=some aS):FR ρ A (Frame.enter P f aS.toArray kind) []:=by
 simp only[tj,aa]at e;obtain⟨fn,hf,c,hb,e⟩:=e;split at e
 . rename_i hle;have hle:=aj hle;cases e;have hl:=eA ha;have hfr:Frame.enter P f aS.toArray kind={fn:=f,tmps:=aS.toArray++Array.replicate (fn.ntmps-aS.toArray.size) undef,todo:=[.code c],defers:=[],mode:=.run,kind:=kind}:=by
    simp[Frame.enter,hf,hb]
   rw[hfr];refine⟨rfl,rfl,rfl,rfl,rfl,(cY (by trivial)).2 ⟨rfl,by simp;omega,fun t x hx=>?_⟩,.inl rfl⟩;rcases IQ hx with⟨_,h1⟩|h1
   . obtain⟨v,k1,k2⟩:=lU ha h1;have hlt:=(List.getElem?_eq_some_iff.1 k1).1;refine⟨v,k2,?_⟩;rw[Array.getElem?_append_left (by simpa using hlt)];simpa using k1
   . simp[get_nil]at h1
 . cases e
theorem J6{A:AF}(hf:FR ρ A fr u)(hs:Vl A.todo fr.todo){l:List (AV×Bool)}{l':List PanicEntry}(hl:ju ρ l=some l'):FR ρ (zS A l) (fr.raise l') u:=by
 unfold zS Frame.raise;have hm:=hf.mode;have happ:∀{x y:List (AV×Bool)} {x' y':List PanicEntry},ju ρ x=some x'->ju ρ y=some y'->ju ρ (x++y)=some (x'++y'):=by
  intro x
  induction x with
  |nil=>intro y x' y' h1 h2;simp only[ju,af]at h1;subst h1;exact h2
  |cons p x ih=>
   intro y x' y' h1 h2
   obtain⟨q,c⟩:=p
   simp only[ju,aa,ab]at h1
   obtain⟨q',g1,x2,g2,rfl⟩:=h1
   simp only[aV,ju,g1,ih g2 h2,ae,ak]
 cases hA:A.mode with
 |run=>
  rw[hA]at hm;simp only[gF,af]at hm
  rw[<- hm]
  exact⟨hf.fn,hf.kind,hf.rd,by simp only[gF,hl,ak],hf.ds,hf.body,.inr hs⟩
 |ret=>
  rw[hA]at hm;simp only[gF,af]at hm
  rw[<- hm]
  exact⟨hf.fn,hf.kind,hf.rd,by simp only[gF,hl,ak],hf.ds,hf.body,.inr hs⟩
 |KH old=>
  rw[hA]at hm;simp only[gF,ab]at hm
  obtain⟨old',g1,g2⟩:=hm
  rw[<- g2]
  exact⟨hf.fn,hf.kind,hf.rd,by simp only[gF,happ hl g1,ak],hf.ds,hf.body,.inr hs⟩
theorem EM(ht:fr.todo=.inRegion ops (i::rest)::k)(ds:List Deferred)(v:Value):({fr with defers:=ds}:Frame).finish v={fr.finish v with defers:=ds}:=by
 unfold Frame.finish;simp only[ht]
theorem Iq.cons_inv{A:AF}{As:List AF}{frs:List Frame}(h:Iq ρ (A::As) frs us):∃fr frs' u us',frs=fr::frs'/\us=u++us'/\FR ρ A fr u/\Vl A.todo fr.todo/\Iq ρ As frs' us':=by
 cases h with
 |cons h1 h2 h3=>exact⟨_,_,_,_,rfl,rfl,h1,h2,h3⟩
def gL(P:Program)(w0:World):Prop:=∀f h args v ρ w aS,Bq f h args=some v->WR w0 ρ h w->bX ρ args=some aS->
 Calls P f aS.toArray w fun e w'=>∃u,e=.returned u/\conv ρ v=some u/\pN w w'/\∀b,b<w.heap.size->w'.heap[b]?=w.heap[b]?
theorem RD(hX:gL P w0)(H:WR w0 ρ s.h w)(hf:FR ρ s.fr fr u)(hsus:Vl s.fr.todo fr.todo)(hcs:Iq ρ s.cs cs us)(hF:iE ρ s.h.nx (u++us))(hm:fr.mode=.run)(ht:fr.todo=.inRegion ops (i::rest)::k)(ho:ops[i]?=some o)
 (hw:Region.wanted o (yielded ops fr.tmps)=true) (hres:dB w0 ρ s.h w ((execOp (⟨fr.tmps,fr.defers⟩:Act).eval o).run P w) r):iW P w0 cs0 (lone fr (cs++cs0) w) (jR P s r):=by
 cases r with
 |val v=>
  obtain⟨v',w',r1,r2,r3⟩:=hres
  refine cZ fun y hy=>?_
  simp only[ab]at hy
  obtain⟨A',e1,rfl⟩:=hy
  exact⟨_,Steps.one (pI hm ht ho hw (.inl r1)),ρ,_,cs,w',u,us,rfl,r3,(eY hf hsus r2 e1).1,hcs,hF⟩
 |new x mk=>
  refine cZ fun y hy=>?_
  simp only[ab]at hy
  obtain⟨A',e1,rfl⟩:=hy
  obtain⟨v',w',q,r1,r2,r3⟩:=hres (s.h.add x) s.h.nx (H.add x) (add_get _ _) (H.fresh _ (Nat.le_refl _)).1
  have hN:jl s.h (s.h.add x) ρ (put ρ s.h.nx q):=jl.put (H.fresh _ (Nat.le_refl _)).1
  exact⟨_,Steps.one (pI hm ht ho hw (.inl r1)),put ρ s.h.nx q,_,cs,w',u,us,rfl,r3,(eY (hf.mono hN.ext) hsus r2 e1).1,hcs.mono hN.ext,hF.ext hN⟩
 |la v h'=>
  obtain⟨ρ',v',w',hN,r1,r2,r3⟩:=hres
  refine cZ fun y hy=>?_
  simp only[ab]at hy
  obtain⟨A',e1,rfl⟩:=hy
  exact⟨_,Steps.one (pI hm ht ho hw r1),ρ',_,cs,w',u,us,rfl,r3,(eY (hf.mono hN.ext) hsus r2 e1).1,hcs.mono hN.ext,hF.ext hN⟩
 |many l=>
  obtain⟨q,hq,ρ',v',w',hN,r1,r2,r3⟩:=hres
  refine cZ fun y hy=>?_
  simp only[ab]at hy
  obtain⟨ss,e1,rfl⟩:=hy
  have hmem:∀{l:List (AV×HS)} {ss:List qW},l.mapM (fun q=>(cl s.fr q.1).map fun fr=>{s with h:=q.2,fr:=fr})=some ss->q∈l->∃A',cl s.fr q.1=some A'/\{s with h:=q.2,fr:=A'}∈ss:=by
   intro l
   induction l with
   |nil=>intro ss _ hm;cases hm
   |cons p l ih=>
    intro ss e hm
    simp only[List.mapM_cons,Option.bind_eq_bind,aa,ab,Option.pure_def,af]at e
    obtain⟨x,⟨A',g1,rfl⟩,ss',g2,rfl⟩:=e
    rcases aB.1 hm with rfl|hm
    . exact⟨A',g1,aq ..⟩
    . obtain⟨A2,k1,k2⟩:=ih g2 hm
      exact⟨A2,k1,au _ k2⟩
  obtain⟨A',g1,g2⟩:=hmem e1 hq
  exact⟨_,g2,_,Steps.one (pI hm ht ho hw (.inl r1)),ρ',_,cs,w',u,us,rfl,r3,(eY (hf.mono hN.ext) hsus r2 g1).1,hcs.mono hN.ext,hF.ext hN⟩
 |enter f args=>
  obtain⟨aS,r1,r2⟩:=hres
  have hst:step P (lone fr (cs++cs0) w)=.next (lone (Frame.enter P f aS.toArray .normal) (fr::(cs++cs0)) w):=by
   refine step_lone_go ?_;rw[oL hm ht ho hw,Oper.semAt_eq _ _ _ (uO (fun _ h=>by cases h) r1)];simp[stepG.apply,r1,ht]
  unfold jR
  simp only
  split
  . rename_i v hv
    refine cZ fun y hy=>?_
    simp only[ab]at hy
    obtain⟨A',e1,rfl⟩:=hy
    obtain⟨e,w',fr2,⟨v',rfl,k1,k2,k3⟩,k4,_,k5⟩:=hX f s.h args v ρ w aS hv H r2 (fr::(cs++cs0))
    exact⟨_,(Steps.one hst).trans (Steps.trans k4 (Steps.one (step_leave_returned k5))),ρ,_,cs,w',u,us,rfl,H.same k2 k3,(eY hf hsus k1 e1).1,hcs,hF⟩
  . refine cZ fun y hy=>?_
    simp only[ab]at hy
    obtain⟨A',e1,rfl⟩:=hy
    exact⟨_,Steps.one hst,ρ,_,fr::cs,w,[],u++us,rfl,H,xj e1 r2,.cons hf hsus hcs,hF⟩
 |round q args=>
  refine cZ fun y hy=>?_
  simp only[aa]at hy
  obtain⟨x,e1,hy⟩:=hy
  split at hy
  . rename_i st pe fn n K ps fC body d
    simp only[ab]at hy
    obtain⟨K',e2,rfl⟩:=hy
    obtain⟨L,tmps,hL,r1,r2⟩:=hres st pe fn n K ps fC body d K' e1 e2
    have hst:step P (lone fr (cs++cs0) w)=.next (lone (Frame.round L.b fn tmps fC body .normal) (fr::(cs++cs0)) w):=by
     refine step_lone_go ?_;rw[oL hm ht ho hw,Oper.semAt_eq _ _ _ (uO (fun _ h=>by cases h) r1)];simp[stepG.apply,r1]
    exact⟨_,Steps.one hst,ρ,_,fr::cs,w,[],u++us,rfl,H,⟨rfl,rfl,⟨L,hL,rfl⟩,rfl,rfl,(cY (by trivial)).2 ⟨rfl,r2⟩,.inl rfl⟩,.cons hf hsus hcs,hF⟩
  . cases hy
 |defer d=>
  obtain⟨d',r1,r2⟩:=hres
  simp only[jR]
  split
  . rename_i hrd
    refine cZ fun y hy=>?_
    simp only[ab]at hy
    obtain⟨A',e1,rfl⟩:=hy
    have hro:fr.roundOf=none:=by have:=hf.rd;rw[hrd]at this;exact this
    have hst:step P (lone fr (cs++cs0) w)=.next (lone ({fr.finish undef with defers:=d'::fr.defers}) (cs++cs0) w):=by
     refine step_lone_go ?_;rw[oL hm ht ho hw,hro,Oper.semAt_none,<- EM ht];simp[stepG.apply,r1]
    obtain⟨g1,_,_⟩:=eY (v:=gH) (v':=undef) hf hsus rfl e1
    have hds:A'.ds=s.fr.ds:=by
     unfold cl at e1;split at e1
     . simp only[ab]at e1;obtain⟨_,_,rfl⟩:=e1;rfl
     . simp only[ab]at e1;obtain⟨_,_,rfl⟩:=e1;rfl
     . cases e1;rfl
     . cases e1
    refine⟨_,Steps.one hst,ρ,_,cs,w,u,us,rfl,H,⟨g1.fn,g1.kind,g1.rd,g1.mode,?_,g1.body,g1.sus⟩,hcs,hF⟩
    simp only[gQ,r2,hds,hf.ds,ae,ak]
  . trivial
 |panic v=>
  obtain⟨v',r1,r2⟩:=hres
  have hnd:∀c,o.op≠ .defer c:=fun c hc=>by
   unfold execOp at r1;simp only[hc,Sem.run_bind]at r1;unfold resolve at r1;split at r1<;>(try(simp[Result.andThen,Sem.run_pure]at r1;done));unfold Deferred.ofValue at r1;split at r1<;>simp[Result.andThen,Sem.run_pure,stuck]at r1
  have hst:step P (lone fr (cs++cs0) w)=.next (lone (fr.raise [{v:=v',recovered:=false}]) (cs++cs0) w):=by
   refine step_lone_go ?_;rw[oL hm ht ho hw,Oper.semAt_eq _ _ _ hnd];simp[stepG.apply,r1]
  exact⟨_,Steps.one hst,ρ,_,cs,w,u,us,rfl,H,J6 hf hsus (by simp only[ju,r2,ae,ak]),hcs,hF⟩
 |recover=>
  have r1:(execOp (⟨fr.tmps,fr.defers⟩:Act).eval o).run P w=.ok .recover w:=hres
  have none_ok:∀{A':AF},fr.roundOf=none->tryRecover fr (cs++cs0)=none->cl s.fr (.p .nilIface)=some A'->∃m',Steps P (lone fr (cs++cs0) w) m'/\Ir w0 cs0 {s with fr:=A'} m':=fun{A'} hro htr e1=>by
   have hst:step P (lone fr (cs++cs0) w)=.next (lone (fr.finish .nilIface) (cs++cs0) w):=by
    refine step_lone_go ?_;rw[oL hm ht ho hw,hro,Oper.semAt_none];simp[stepG.apply,r1,hro,htr]
   exact⟨_,Steps.one hst,ρ,_,cs,w,u,us,rfl,H,(eY (v:=.p .nilIface) hf hsus rfl e1).1,hcs,hF⟩
  simp only[jR]
  split
  . rename_i c ccs hrd hkind hcc
    have hro:fr.roundOf=none:=by have:=hf.rd;rw[hrd]at this;exact this
    have hk:fr.kind=.deferred:=by rw[hf.kind,hkind]
    rw[hcc]at hcs
    obtain⟨cf,cfs,u1,us1,rfl,rfl,c1,c2,c3⟩:=hcs.cons_inv
    have hcm:=c1.mode
    split
    . rename_i v older hmode
      refine cZ fun y hy=>?_
      simp only[ab]at hy
      obtain⟨A',e1,rfl⟩:=hy
      rw[hmode]at hcm
      simp only[gF,ju,ab,aa]at hcm
      obtain⟨ch,⟨v',q1,older',q2,rfl⟩,q3⟩:=hcm
      have htr:tryRecover fr (cf::(cfs++cs0))=some (v',{cf with mode:=.panicking ({v:=v',recovered:=true}::older')}::(cfs++cs0)):=by
       unfold tryRecover;simp only[hk,<- q3]
      have hst:step P (lone fr (cf::cfs++cs0) w)=.next (lone (fr.finish v') ({cf with mode:=.panicking ({v:=v',recovered:=true}::older')}::(cfs++cs0)) w):=by
       refine step_lone_go ?_;rw[aV,oL hm ht ho hw,hro,Oper.semAt_none];simp[stepG.apply,r1,hro,htr]
      refine⟨_,Steps.one hst,ρ,_,{cf with mode:=.panicking ({v:=v',recovered:=true}::older')}::cfs,w,u,u1++us1,rfl,H,(eY hf hsus q1 e1).1,(.cons ⟨c1.fn,c1.kind,c1.rd,?_,c1.ds,c1.body,.inr c2⟩ c2 c3),hF⟩
      simp only[gF,ju,q1,q2,ae,ak]
    . rename_i hne
      refine cZ fun y hy=>?_
      simp only[ab]at hy
      obtain⟨A',e1,rfl⟩:=hy
      have:=none_ok (A':=A') hro (by
       unfold tryRecover;simp only[hk,aV]
       cases hA:c.mode with
       |run=>rw[hA]at hcm;simp only[gF,af]at hcm;rw[<- hcm]
       |ret=>rw[hA]at hcm;simp only[gF,af]at hcm;rw[<- hcm]
       |KH l=>
        rw[hA]at hcm
        simp only[gF,ab]at hcm
        obtain⟨l',q1,q2⟩:=hcm
        rw[<- q2]
        cases l with
        |nil=>simp only[ju,af]at q1;subst q1;rfl
        |cons p l=>
         obtain⟨v,b⟩:=p
         simp only[ju,ab,aa]at q1
         obtain⟨v',g1,l2,g2,rfl⟩:=q1
         cases b with
         |true=>rfl
         |false=>exact absurd hA (hne v l)) e1
      exact this
  . rename_i hrd hkind
    have hro:fr.roundOf=none:=by have:=hf.rd;rw[hrd]at this;exact this
    have hk:fr.kind=.normal:=by rw[hf.kind,hkind]
    refine cZ fun y hy=>?_
    simp only[ab]at hy
    obtain⟨A',e1,rfl⟩:=hy
    exact none_ok hro (by unfold tryRecover;simp only[hk]) e1
  . trivial
end
end Go.Proofs.YtjfkdglgecgjfaaGreat.R
namespace Go.Proofs.YtjfkdglgecgjfaaGreat.R
open Go.RowKit
section
variable {P:Program}{w0 w w':World}{cs0 cs:List Frame}{ρ ρ':lP}{h h':HS}{u us:List Nat}{fr:Frame}{o:Oper}{ops:Array Oper}{i n:Nat}{rest:List Nat}{k:List Item}{s:qW}{r:AR}{K K' K0:Tr AV}{todo:List Nat}
theorem iW.trans{m m1:Machine}{r:ia}(hs:Steps P m m1)(hr:iW P w0 cs0 m1 r):iW P w0 cs0 m r:=by
 cases r with
 |one s2|push s2|pop s2=>obtain⟨m',t1,t2⟩:=hr;exact⟨m',hs.trans t1,t2⟩
 |many l2=>obtain⟨s2,t0,m',t1,t2⟩:=hr;exact⟨s2,t0,m',hs.trans t1,t2⟩
 |fin=>trivial
 |bad _=>trivial
theorem FN(hX:gL P w0){mx:Oper->Tr AV}(H:WR w0 ρ s.h w)(hf:FR ρ s.fr fr u)(hsus:Vl s.fr.todo fr.todo)(hcs:Iq ρ s.cs cs us)(hF:iE ρ s.h.nx (u++us))(hm:fr.mode=.run)(ht:fr.todo=.inRegion ops (i::rest)::k)
 (hE:∀o,ops[i]?=some o->sI ρ (mx o) ⟨fr.tmps,fr.defers⟩ o.op) (hg:∀o g,ops[i]?=some o->kF ops (mx o) o=some g->Region.wanted o (yielded ops fr.tmps)=g):iW P w0 cs0 (lone fr (cs++cs0) w) (rU P s ops i mx):=by
 unfold rU
 split
 . trivial
 . rename_i o ho
   split
   . trivial
   . rename_i hgd
     refine cZ fun y hy=>?_
     simp only[ab]at hy
     obtain⟨A',e1,rfl⟩:=hy
     exact⟨_,Steps.one (Eg hm ht ho (hg o _ ho hgd)),ρ,_,cs,w,u,us,rfl,H,(eY (v:=gH) (v':=undef) hf hsus rfl e1).1,hcs,hF⟩
   . rename_i hgd
     split
     . rename_i r hop
       exact RD hX H hf hsus hcs hF hm ht ho (hg o _ ho hgd) (Ml H (hE o ho) hop)
     . trivial
theorem wi{d:Option Nat}{v:AV}(e:mf K n d v=some K')(t:Nat):K'.get t=K.get t\/d=some t:=by
 by_cases h:d=some t
 . exact .inr h
 . exact .inl ((J3 e).1 t h)
structure Gc(w0:World)(ops:Array Oper)(h h':HS)(K K':Tr AV)(pend pend':List (Nat×Fl)):Prop where
 nx:h.nx<=h'.nx
 wr:∀ρ w,WR w0 ρ h w->WR w0 ρ h' w
 get:∀t,K'.get t=K.get t\/∃i o,(i,Fl.no)∈pend/\ops[i]?=some o/\o.dst=some t
 kept:∀i fl,(i,fl)∈pend->∃fl',(i,fl')∈pend'
 Q5:∀i,(i,Fl.no)∈pend'->(i,Fl.no)∈pend
 keys:∀i fl,(i,fl)∈pend'->∃fl',(i,fl')∈pend
 news:∀i q,(i,Fl.new q)∈pend'->(i,Fl.new q)∈pend\/(h.nx<=q/\q<h'.nx)
theorem Gc.ox{pend pend':List (Nat×Fl)}(S:Gc w0 ops h h' K K' pend pend')(p:Nat×Fl):Gc w0 ops h h' K K' (p::pend) (p::pend') where
 nx:=S.nx
 wr:=S.wr
 get:=fun t=>(S.get t).imp id fun⟨i,o,h1,h2⟩=>⟨i,o,au _ h1,h2⟩
 kept:=fun i fl hm=>by
  rcases aB.1 hm with e|hm
  . exact⟨fl,by rw[e];exact aq ..⟩
  . obtain⟨fl',h1⟩:=S.kept i fl hm;exact⟨fl',au _ h1⟩
 Q5:=fun i hm=>by
  rcases aB.1 hm with e|hm
  . rw[e];exact aq ..
  . exact au _ (S.Q5 i hm)
 keys:=fun i fl hm=>by
  rcases aB.1 hm with e|hm
  . exact⟨fl,by rw[e];exact aq ..⟩
  . obtain⟨fl',h1⟩:=S.keys i fl hm;exact⟨fl',au _ h1⟩
 news:=fun i q hm=>by
  rcases aB.1 hm with e|hm
  . exact .inl (by rw[e];exact aq ..)
  . exact(S.news i q hm).imp (fun h1=>au _ h1) id
theorem Ed:∀{pend pend':List (Nat×Fl)} {h h':HS} {K K':Tr AV},oJ P ops K0 todo n pend h K=some (h',K',pend')->Gc w0 ops h h' K K' pend pend'
 |[],pend',h,h',K,K',e=>by
  simp only[oJ,af,aA]at e;obtain⟨rfl,rfl,rfl⟩:=e;exact⟨Nat.le_refl _,fun _ _ h=>h,fun _=>.inl rfl,fun _ _ h=>(by cases h),fun _ h=>(by cases h),fun _ _ h=>(by cases h),fun _ _ h=>(by cases h)⟩
 |(i,fl)::pend,pend',h,h',K,K',e=>by
  unfold oJ at e;split at e
  . simp only[ab]at e;obtain⟨⟨h2,K2,p2⟩,e1,e2⟩:=e;cases e2;exact(Ed e1).ox (i,fl)
  . rename_i hfl;have hno:fl=.no:=by cases fl<;>first|rfl|cases hfl
    subst hno;simp only[aa]at e;obtain⟨o,ho,g,_,q,hq,e⟩:=e;simp only[ab]at e;obtain⟨⟨h2,K2,p2⟩,e1,e2⟩:=e;cases e2;have S:=Ed e1;have key:h.nx<=q.1.nx/\(∀ρ w,WR w0 ρ h w->WR w0 ρ q.1 w)/\(∀t,q.2.1.get t=K.get t\/o.dst=some t)/\q.2.2≠ .no/\(∀q',q.2.2=.new q'->h.nx<=q'/\q'<q.1.nx):=by
     split at hq
     . simp only[ab]at hq;obtain⟨K3,e3,rfl⟩:=hq;exact⟨Nat.le_refl _,fun _ _ h=>h,wi e3,fun h=>(by cases h),fun _ h=>(by cases h)⟩
     . simp only[aa]at hq;obtain⟨r,_,hq⟩:=hq;split at hq
       . simp only[ab]at hq;obtain⟨K3,e3,rfl⟩:=hq;exact⟨Nat.le_refl _,fun _ _ h=>h,wi e3,fun h=>(by cases h),fun _ h=>(by cases h)⟩
       . simp only[ab]at hq;obtain⟨K3,e3,rfl⟩:=hq;exact⟨Nat.le_succ _,fun _ _ h=>h.add _,wi e3,fun h=>(by cases h),fun _ h=>(by cases h;exact⟨Nat.le_refl _,Nat.lt_succ_self _⟩)⟩
       . cases hq
    obtain⟨k1,k2,k3,k4,k5⟩:=key;refine⟨Nat.le_trans k1 S.nx,fun ρ w hw=>S.wr ρ w (k2 ρ w hw),fun t=>?_,fun j fl hm=>?_,fun j hm=>?_,fun j fl hm=>?_,fun j q' hm=>?_⟩
    . rcases S.get t with h1|⟨j,oj,h1,h2⟩
      . rcases k3 t with h3|h3
        . exact .inl (h1.trans h3)
        . exact .inr ⟨i,o,aq ..,ho,h3⟩
      . exact .inr ⟨j,oj,au _ h1,h2⟩
    . rcases aB.1 hm with e|hm
      . cases e;exact⟨_,aq ..⟩
      . obtain⟨fl',h1⟩:=S.kept j fl hm;exact⟨fl',au _ h1⟩
    . rcases aB.1 hm with e|hm
      . have e1:=congrArg Prod.snd e;exact absurd e1.symm k4
      . exact au _ (S.Q5 j hm)
    . rcases aB.1 hm with e|hm
      . have e1:=congrArg Prod.fst e;simp only at e1;subst e1;exact⟨_,aq ..⟩
      . obtain⟨fl',h1⟩:=S.keys j fl hm;exact⟨fl',au _ h1⟩
    . rcases aB.1 hm with e|hm
      . have e1:=congrArg Prod.snd e;have:=k5 q' e1.symm;exact .inr ⟨this.1,Nat.lt_of_lt_of_le this.2 S.nx⟩
      . rcases S.news j q' hm with h1|h1
        . exact .inl (au _ h1)
        . exact .inr ⟨Nat.le_trans k1 h1.1,h1.2⟩
theorem I5(hX:gL P w0){pend:List (Nat×Fl)}{kA:List AI}(H:WR w0 ρ s.h w)(hf:FR ρ s.fr fr u)(hcs:Iq ρ s.cs cs us)(hF:iE ρ s.h.nx (u++us))(hA:s.fr.todo=.qA ops K0 todo pend::kA)(hm:fr.mode=.run):iW P w0 cs0 (lone fr (cs++cs0) w) (qy P s ops K0 todo pend kA):=by
 have hmr:=Dq hf hm;unfold qy;split
 . trivial
 . rename_i h1 K1 pend1 hst;split
   . trivial
   . rename_i hS;have S:=Ed (w0:=w0) hst;have hb:=hf.body;rw[hA]at hb;obtain⟨rest,k',l,htd,hk',hD⟩:=hb;have H1:=S.wr ρ w H;obtain⟨htidy,_⟩:=nX hD.nW;have hD1:yI ρ s.fr.n K1 ops K0 todo pend1 rest fr.tmps (u++List.range' s.h.nx (h1.nx-s.h.nx)) l:=
      {nW:=hD.nW,ZU:=hD.ZU,size:=hD.size,Vn:=hD.Vn,closed:=hD.closed,chain:=hD.chain,todo:=hD.todo
       quiet:=fun i o ho he hl=>let⟨fl,h2⟩:=hD.quiet i o ho he hl;S.kept i fl h2
       news:=fun i q hm hl=>by
        rcases S.news i q hm with h2|h2
        . exact aU _ (hD.news i q h2 hl)
        . refine ba _ ?_;rw[List.mem_range'_1];omega
       Q5:=fun i hm=>hD.Q5 i (S.Q5 i hm)
       keys:=fun i fl hm=>let⟨fl',h2⟩:=S.keys i fl hm;hD.keys i fl' h2
       Ek:=hD.Ek
       Vz:=fun t x hx hw=>by
        rcases S.get t with h2|⟨i,oi,h2,h3,h4⟩
        . rw[h2]at hx;exact hD.Vz t x hx hw
        . exact absurd (hw i ((D.pJ htidy h3).1 t h4).1) (hD.Q5 i h2)
       Yi:=hD.Yi}
     have hun:(u++List.range' s.h.nx (h1.nx-s.h.nx)).Nodup:=by
      have hu:=(List.nodup_append.1 hF.1).1;refine List.nodup_append.2 ⟨hu,List.nodup_range',fun a ha b hb=>?_⟩;rw[List.mem_range'_1]at hb;have:=(hF.2 a (aU _ ha)).2;omega
     have hnone:∀q∈u++List.range' s.h.nx (h1.nx-s.h.nx),ρ q=none:=fun q hq=>by
      rcases bj.1 hq with h2|h2
      . exact(hF.2 q (aU _ h2)).1
      . rw[List.mem_range'_1]at h2;exact(H.fresh q h2.1).1
     obtain⟨rest',l',tmps',ρ',w',un',r1,r2,r3,r4,r5,r6,r7,r8,r9⟩:=drain (P:=P) hD.nW hS (b:=fr) (ds:=fr.defers) (k:=k') (cs:=cs++cs0) rest l fr.tmps ρ w _ H1 hD1 hun hnone;have hself:lone (fr.atR ⟨fr.tmps,fr.defers⟩ (.inRegion ops rest::k')) (cs++cs0) w=lone fr (cs++cs0) w:=by rw[<- htd,qY hm]
     rw[hself]at r1;have husq:∀q∈us,q ∉ u++List.range' s.h.nx (h1.nx-s.h.nx):=fun q hq hm2=>by
      rcases bj.1 hm2 with h2|h2
      . exact(List.nodup_append.1 hF.1).2.2 q h2 q hq rfl
      . rw[List.mem_range'_1]at h2;have:=(hF.2 q (ba _ hq)).2;omega
     have hF':iE ρ' h1.nx (un'++us):=by
      refine⟨List.nodup_append.2 ⟨r5,(List.nodup_append.1 hF.1).2.1,fun a ha b hb e=>husq b hb (e▸r6 a ha)⟩,fun q hq=>?_⟩;rcases bj.1 hq with h2|h2
      . refine⟨r7 q h2,?_⟩;rcases bj.1 (r6 q h2)with h3|h3
        . exact Nat.lt_of_lt_of_le (hF.2 q (aU _ h3)).2 S.nx
        . rw[List.mem_range'_1]at h3;have:=S.nx;omega
      . have h3:=hF.2 q (ba _ h2);exact⟨r8 q h3.1 (husq q h2),Nat.lt_of_lt_of_le h3.2 S.nx⟩
     have hcs':=hcs.mono r2;have hfb:=hf.mono r2
     cases todo with
     |nil=>
      have hr9:rest'=[]:=r9
      subst hr9
      have hall:=D.Cf htidy r4.size r4.Vn
      have hst2:=stepR_region_end (P:=P) (b:=fr) (a:=⟨tmps',fr.defers⟩) (k:=k') (cs:=cs++cs0) (w:=w') (ops:=ops)
      refine⟨_,r1.trans (Steps.one hst2),ρ',_,cs,w',un',us,rfl,r3,⟨hfb.fn,hfb.kind,hfb.rd,?_,hfb.ds,(cY (DN (jv r2 hk'))).2 ⟨jv r2 hk',r4.Ek,fun t x hx=>r4.Vz t x hx fun j hj=>?_⟩,.inl hmr⟩,hcs',hF'⟩
      . have:=hfb.mode;rw[hm]at this;exact this
      . obtain⟨oj,g1,_⟩:=D.Aq hj
        exact hall j (Array.getElem?_eq_some_iff.1 g1).1
     |cons c t=>
      obtain⟨tl,rfl⟩:=r9
      have hready:=r4.Vn.1
      have hfr':FR ρ' {s.fr with K:=K1,todo:=.qA ops K0 (c::t) pend1::kA} (fr.atR ⟨tmps',fr.defers⟩ (.inRegion ops (c::tl)::k')) un':=
       ⟨hfb.fn,hfb.kind,hfb.rd,by have:=hfb.mode;rw[hm]at this;exact this,hfb.ds,⟨_,k',l',rfl,jv r2 hk',r4⟩,.inl hmr⟩
      have:=FN hX (P:=P) (cs0:=cs0) (s:={s with h:=h1,fr:={s.fr with K:=K1,todo:=.qA ops K0 (c::t) pend1::kA}}) (mx:=Bu ops K0 K1 c) (i:=c) (rest:=tl) (k:=k') (ops:=ops) r3 hfr' ⟨tl,rfl⟩ hcs' hF' rfl rfl
       (fun o ho=>S4 r4 ho hready) (fun o g ho hg=>Db hg fun t x ht hx=>LZ r4 ho hready ht hx)
      exact iW.trans r1 this
end
end Go.Proofs.YtjfkdglgecgjfaaGreat.R
